/- Texts of the proof, merged: what the code computes, and plain laws. No statement stands here. -/
import Derived.OpenShut
import Derived.Deep.Slices
import Derived.SizedLaws
import Derived.Below
import Derived.Lib.LaidTab
import Derived.Test.YtflobilbbfefaaaGreatDoorT3
namespace Go.Eng
theorem qn8(x0:Int):q1o [.i x0]=(.br (ile (-100000) x0) (.leaf (0,[(.b (ile x0 100000))])) (.leaf (0,[(.b false)]))):=by kernel_rfl
theorem qi6(x0:Int)(x1:Int):vW [.i x0,.i x1]=(.br (okR (q1o [(.i x0)])) (.br (gB (q1o [(.i x0)]) 0) (.br (okR (q1o [(.i x1)])) (.leaf (0,[(.b (gB (q1o [(.i x1)]) 0))])) .fail) (.leaf (0,[(.b false)]))) .fail):=by kernel_rfl
theorem qkb(x0:Int):vq [.i x0]=(.br (ile 1 x0) (.leaf (0,[(.b (ile x0 100000))])) (.leaf (0,[(.b false)]))):=by kernel_rfl
theorem qhF(x0:Int)(x1:Int)(x2:Int)(x3:Int)(x4:Int)(x5:Int)(x6:Bool):kH [.i x0,.i x1,.i x2,.i x3,.i x4,.i x5,.b x6]=(.br (okR (vW [(.i x0),(.i x1)])) (.br (not (gB (vW [(.i x0),(.i x1)]) 0)) (.leaf (0,[(.i 2)])) (.br (okR (vq [(.i x2)])) (.br (not (gB (vq [(.i x2)]) 0)) (.leaf (0,[(.i 2)])) (.br (okR (vq [(.i x3)])) (.br (not (gB (vq [(.i x3)]) 0)) (.leaf (0,[(.i 2)])) (.br (ilt x3 x2) (.leaf (0,[(.i 9)])) (.br (ilt x4 0) (.leaf (0,[(.i 2)])) (.br (ilt 100000 x4) (.leaf (0,[(.i 2)])) (.br (not x6) (.br (ile x2 x4) (.leaf (0,[(.i 2)])) (.br (ilt x5 0) (.leaf (0,[(.i 1)])) (.br (ilt 2 x5) (.leaf (0,[(.i 1)])) (.leaf (0,[(.i 0)]))))) (.br (ilt x5 0) (.leaf (0,[(.i 1)])) (.br (ilt 2 x5) (.leaf (0,[(.i 1)])) (.leaf (0,[(.i 0)]))))))))) .fail)) .fail)) .fail):=by kernel_rfl
theorem qjm(x0:Int)(x1:Int)(x2:Int)(x3:Int)(x4:Int)(x5:Int)(x6:Bool)(x7:Int)(x8:Int)(x9:Int)(x10:Int)(x11:Int)(x12:Int)(x13:Bool):q1n [.i x0,.i x1,.i x2,.i x3,.i x4,.i x5,.b x6,.i x7,.i x8,.i x9,.i x10,.i x11,.i x12,.b x13]=(let r0:TR:=(kH [(.i x0),(.i x1),(.i x2),(.i x3),(.i x4),(.i x5),(.b x6)])
 .br (okR r0) (.br (ine (gI r0 0) 0) (.leaf (0,[(.i (gI r0 0))])) (let r1:TR:=(kH [(.i x7),(.i x8),(.i x9),(.i x10),(.i x11),(.i x12),(.b x13)])
 .br (okR r1) (.br (ine (gI r1 0) 0) (.leaf (0,[(.i (gI r1 0))])) (.br (ine x5 1) (.leaf (0,[(.i 14)])) (.br (ine x12 1) (.leaf (0,[(.i 14)])) (.br (not (qrY (ieq x0 x7) (qrY (ieq x1 x8) true))) (.leaf (0,[(.i 16)])) (.br (beq x6 x13) (.leaf (0,[(.i 16)])) (.leaf (0,[(.i 0)]))))))) .fail)) .fail):=by kernel_rfl
theorem q7t(y0:Int)(y1:R)(y2:R):uy [.i y0,.r y1,.r y2]=(.br (ilt y0 (qh y1)) (.br (inb y0 (qh y1)) (.br (inb y0 (qh y2)) (let r0:TR:=(q1n [(.i (cI y1 y0 0)),(.i (cI y1 y0 1)),(.i (cI y1 y0 2)),(.i (cI y1 y0 3)),(.i (cI y1 y0 4)),(.i (cI y1 y0 5)),(.b (cB y1 y0 6)),(.i (cI y2 y0 0)),(.i (cI y2 y0 1)),(.i (cI y2 y0 2)),(.i (cI y2 y0 3)),(.i (cI y2 y0 4)),(.i (cI y2 y0 5)),(.b (cB y2 y0 6))])
 .br (okR r0) (.br (ine (gI r0 0) 0) (.leaf (2,[(.i (gI r0 0))])) (.leaf (0,[(.i (ql .i64 y0 1)),(.r y1),(.r y2)]))) .fail) .fail) .fail) (.leaf (1,[]))):=by kernel_rfl
theorem qi0(x0:R)(x1:R):kQ [.r x0,.r x1]=(.br (ieq (qh x0) 0) (.leaf (0,[(.i 13)])) (.br (ilt 16 (qh x0)) (.leaf (0,[(.i 5)])) (.br (ine (qh x1) (qh x0)) (.leaf (0,[(.i 8)])) (let r0:TR:=(qw uy [(.i 0),(.r x0),(.r x1)])
 .br (okR r0) (.br (jIs r0 0) (.leaf (0,[(.i 0)])) (.leaf (0,[(.i (gI r0 0))]))) .fail)))):=by kernel_rfl
theorem qiS(x0:Int)(x1:Int)(x2:Int):kv [.i x0,.i x1,.i x2]=(.br (okR (vW [(.i x0),(.i x1)])) (.br (not (gB (vW [(.i x0),(.i x1)]) 0)) (.leaf (0,[(.i 2)])) (.br (okR (vq [(.i x2)])) (.br (not (gB (vq [(.i x2)]) 0)) (.leaf (0,[(.i 2)])) (.leaf (0,[(.i 0)]))) .fail)) .fail):=by kernel_rfl
theorem qgC(x0:Int)(x1:Int)(x2:Int)(x3:Int)(x4:Int)(x5:Int)(x6:Bool)(x7:Int):yj [.i x0,.i x1,.i x2,.i x3,.i x4,.i x5,.b x6,.i x7]=(.br (ile x2 x7) (.leaf (0,[(.b (ile x7 x3))])) (.leaf (0,[(.b false)]))):=by kernel_rfl
theorem q6V(y0:Int)(y1:R)(y2:R)(y3:R)(y4:R):uw [.i y0,.r y1,.r y2,.r y3,.r y4]=(.br (ilt y0 (qh y3)) (.br (inb y0 (qh y3)) (let r0:TR:=(kv [(.i (cI y3 y0 0)),(.i (cI y3 y0 1)),(.i (cI y3 y0 2))])
 .br (okR r0) (.br (ine (gI r0 0) 0) (.leaf (2,[(.i (gI r0 0))])) (.br (inb y0 (qh y4)) (let r1:TR:=(kv [(.i (cI y4 y0 0)),(.i (cI y4 y0 1)),(.i (cI y4 y0 2))])
 .br (okR r1) (.br (ine (gI r1 0) 0) (.leaf (2,[(.i (gI r1 0))])) (.br (inb y0 (qh y1)) (.br (inb y0 (qh y3)) (let r2:TR:=(yj [(.i (cI y1 y0 0)),(.i (cI y1 y0 1)),(.i (cI y1 y0 2)),(.i (cI y1 y0 3)),(.i (cI y1 y0 4)),(.i (cI y1 y0 5)),(.b (cB y1 y0 6)),(.i (cI y3 y0 2))])
 .br (okR r2) (.br (not (gB r2 0)) (.leaf (2,[(.i 14)])) (.br (inb y0 (qh y2)) (.br (inb y0 (qh y4)) (let r3:TR:=(yj [(.i (cI y2 y0 0)),(.i (cI y2 y0 1)),(.i (cI y2 y0 2)),(.i (cI y2 y0 3)),(.i (cI y2 y0 4)),(.i (cI y2 y0 5)),(.b (cB y2 y0 6)),(.i (cI y4 y0 2))])
 .br (okR r3) (.br (not (gB r3 0)) (.leaf (2,[(.i 14)])) (.leaf (0,[(.i (ql .i64 y0 1)),(.r y1),(.r y2),(.r y3),(.r y4)]))) .fail) .fail) .fail)) .fail) .fail) .fail)) .fail) .fail)) .fail) .fail) (.leaf (1,[]))):=by kernel_rfl
theorem qhK(x0:R)(x1:R)(x2:R)(x3:R):ud [.r x0,.r x1,.r x2,.r x3]=(let r0:TR:=(kQ [(.r x0),(.r x1)])
 .br (okR r0) (.br (ine (gI r0 0) 0) (.leaf (0,[(.i (gI r0 0))])) (.br (ine (qh x2) (qh x0)) (.leaf (0,[(.i 8)])) (.br (ine (qh x3) (qh x1)) (.leaf (0,[(.i 8)])) (let r1:TR:=(qw uw [(.i 0),(.r x0),(.r x1),(.r x2),(.r x3)])
 .br (okR r1) (.br (jIs r1 0) (.leaf (0,[(.i 0)])) (.leaf (0,[(.i (gI r1 0))]))) .fail)))) .fail):=by kernel_rfl
theorem qkV(x0:R)(x1:R)(x2:R)(x3:R):q5y [.r x0,.r x1,.r x2,.r x3]=(.br (ilt 40 (qh x0)) (.leaf (0,[(.b false)])) (.br (ilt 40 (qh x1)) (.leaf (0,[(.b false)])) (.br (ilt 40 (qh x2)) (.leaf (0,[(.b false)])) (.br (ilt 40 (qh x3)) (.leaf (0,[(.b false)])) (.br (ile (qh x0) 4) (.leaf (0,[(.b true)])) (let r0:TR:=(ud [(.r x0),(.r x1),(.r x2),(.r x3)])
 .br (okR r0) (.leaf (0,[(.b (ine (gI r0 0) 0))])) .fail)))))):=by kernel_rfl
theorem q59(x0:List UInt8)(x1:List UInt8):zx [.s x0,.s x1]=(let r0:TR:=(wl [(.s x0),(.s x1)])
 .br (okR r0) (.br (ile 0 (gI r0 0)) (.br (q8k (gI r0 0) (zt x0)) (.br (q8k 0 (gI r0 0)) (.br (q8k (zt x0) (zt x0)) (.br (q8k (ql .i64 (gI r0 0) (zt x1)) (zt x0)) (.leaf (0,[(.s (qdF x0 0 (gI r0 0))),(.s (qdF x0 (ql .i64 (gI r0 0) (zt x1)) (zt x0))),(.b true)])) .fail) .fail) .fail) .fail) (.leaf (0,[(.s x0),(.s []),(.b false)]))) .fail):=by kernel_rfl
theorem qhH(x0:List UInt8)(x1:List UInt8):q1Z [.s x0,.s x1]=(let r0:TR:=(zx [(.s x0),(.s x1)])
 .br (okR r0) (.leaf (0,[(.s (gS r0 0)),(.s (gS r0 1)),(.b (gB r0 2))])) .fail):=by kernel_rfl
theorem qkQ(x0:List UInt8):qA [.s x0]=(let r0:TR:=(q1Z [(.s x0),(.s [47])])
 .br (okR r0) (.br (not (gB r0 2)) (.leaf (0,[(.s (gS r0 0)),(.s [49]),(.b (gB r0 2))])) (.leaf (0,[(.s (gS r0 0)),(.s (gS r0 1)),(.b (gB r0 2))]))) .fail):=by kernel_rfl
theorem q1v(x0:List UInt8)(x1:List UInt8):qt [.s x0,.s x1]=(.br (ile (zt x1) (zt x0)) (.br (q8k (zt x1) (zt x0)) (.br (q8k 0 (zt x1)) (.leaf (0,[(.b (seq (qdF x0 0 (zt x1)) x1))])) .fail) .fail) (.leaf (0,[(.b false)]))):=by kernel_rfl
theorem q1u(x0:List UInt8)(x1:List UInt8):qL [.s x0,.s x1]=(let r0:TR:=(qt [(.s x0),(.s x1)])
 .br (okR r0) (.br (gB r0 0) (.br (q8k (zt x0) (zt x0)) (.br (q8k (zt x1) (zt x0)) (.leaf (0,[(.s (qdF x0 (zt x1) (zt x0)))])) .fail) .fail) (.leaf (0,[(.s x0)]))) .fail):=by kernel_rfl
theorem q94(x0:List UInt8)(x1:List UInt8):qD [.s x0,.s x1]=(let r0:TR:=(qL [(.s x0),(.s x1)])
 .br (okR r0) (.leaf (0,[(.s (gS r0 0))])) .fail):=by kernel_rfl
theorem qhw(x0:List UInt8):qz [.s x0]=(let r0:TR:=(qD [(.s x0),(.s [45])])
 .br (okR r0) (.br (seq (gS r0 0) []) (.leaf (0,[(.i 3)])) (let r1:TR:=(q2S [(.s (gS r0 0)),(.s [48,49,50,51,52,53,54,55,56,57])])
 .br (okR r1) (.br (not (seq (gS r1 0) [])) (.leaf (0,[(.i 3)])) (.br (inb 0 (zt (gS r0 0))) (.br (ieq (sat (gS r0 0) 0) 48) (.br (not (seq x0 [48])) (.leaf (0,[(.i 3)])) (.br (ilt 1024 (zt (gS r0 0))) (.leaf (0,[(.i 11)])) (.leaf (0,[(.i 0)])))) (.br (ilt 1024 (zt (gS r0 0))) (.leaf (0,[(.i 11)])) (.leaf (0,[(.i 0)])))) .fail)) .fail)) .fail):=by kernel_rfl
theorem qbs(y0:R)(y1:Int)(y2:Int):q21 [.r y0,.i y1,.i y2]=(.br (ilt y2 y1) (.br (inb y2 (qh y0)) (let r0:TR:=(qz [(.s (cS y0 y2 0))])
 .br (okR r0) (.br (ine (gI r0 0) 0) (.leaf (2,[(.i (gI r0 0))])) (.leaf (0,[(.r y0),(.i y1),(.i (ql .i64 y2 1))]))) .fail) .fail) (.leaf (1,[]))):=by kernel_rfl
theorem qli(x0:R):zi [.r x0]=(let r0:TR:=(qw q21 [(.r x0),(.i (qh x0)),(.i 0)])
 .br (okR r0) (.br (jIs r0 0) (.leaf (0,[(.i 0)])) (.leaf (0,[(.i (gI r0 0))]))) .fail):=by kernel_rfl
theorem qj0(x0:List UInt8):j1 [.s x0]=(.br (seq x0 [48]) (.leaf (0,[(.i 0)])) (.br (inb 0 (zt x0)) (.br (ieq (sat x0 0) 45) (.leaf (0,[(.i (-1))])) (.leaf (0,[(.i 1)]))) .fail)):=by kernel_rfl
theorem qhO(x0:List UInt8)(x1:List UInt8):q1A [.s x0,.s x1]=(.br (ine (zt x0) (zt x1)) (.br (ilt (zt x0) (zt x1)) (.leaf (0,[(.i (-1))])) (.leaf (0,[(.i 1)]))) (let r0:TR:=(q06 [(.s x0),(.s x1)])
 .br (okR r0) (.leaf (0,[(.i (gI r0 0))])) .fail)):=by kernel_rfl
theorem qfh(x0:List UInt8)(x1:List UInt8):kp [.s x0,.s x1]=(let r0:TR:=(zi [(.r [[(.s x0)],[(.s x1)]])])
 .br (okR r0) (.br (ine (gI r0 0) 0) (.leaf (0,[(.i 0),(.i (gI r0 0))])) (let r1:TR:=(j1 [(.s x0)])
 .br (okR r1) (let r2:TR:=(j1 [(.s x1)])
 .br (okR r2) (.br (ilt (gI r1 0) (gI r2 0)) (.leaf (0,[(.i (-1)),(.i 0)])) (.br (okR r2) (.br (ilt (gI r2 0) (gI r1 0)) (.leaf (0,[(.i 1),(.i 0)])) (let r3:TR:=(qD [(.s x0),(.s [45])])
 .br (okR r3) (let r4:TR:=(qD [(.s x1),(.s [45])])
 .br (okR r4) (let r5:TR:=(q1A [(.s (gS r3 0)),(.s (gS r4 0))])
 .br (okR r5) (.leaf (0,[(.i (yW .i64 (gI r1 0) (gI r5 0))),(.i 0)])) .fail) .fail) .fail)) .fail)) .fail) .fail)) .fail):=by kernel_rfl
theorem qm3(x0:Int):qV [.i x0]=(.br (okR (q0K [(.i x0)])) (.leaf (0,[(.s (gS (q0K [(.i x0)]) 0))])) .fail):=by kernel_rfl
theorem q85(y0:Bool)(y1:Int)(y2:R):wN [.b y0,.i y1,.r y2]=(.br (ilt 0 y1) (.br (inb (qE .i64 y1 1) 232) (.br (inb (qE .i64 y1 1) 232) (.br (ieq (cI y2 (qE .i64 y1 1) 0) 0) (.leaf (0,[(.b y0),(.i (qE .i64 y1 1)),(.r y2)])) (.leaf (1,[(.b y0),(.i y1),(.r y2)]))) .fail) .fail) (.leaf (1,[(.b y0),(.i y1),(.r y2)]))):=by kernel_rfl
theorem q9T(x0:Bool)(x1:Int)(x2:R):qm [.b x0,.i x1,.r x2]=(let r0:TR:=(qw wN [(.b x0),(.i x1),(.r x2)])
 .br (okR r0) (.leaf (0,[(.b (gB r0 0)),(.i (gI r0 1)),(.r (gR r0 2))])) .fail):=by kernel_rfl
theorem qfX(y0:List UInt8)(y1:Bool)(y2:Int)(y3:R):q0H [.s y0,.b y1,.i y2,.r y3]=(.br (ilt 0 (zt y0)) (.br (q8k (zt y0) (zt y0)) (.br (q8k (qdt 0 (qE .i64 (zt y0) 9)) (zt y0)) (let r0:TR:=(wt [(.s (qdF y0 (qdt 0 (qE .i64 (zt y0) 9)) (zt y0)))])
 .br (okR r0) (.br (inb y2 232) (.br (inb y2 232) (.br (q8k (qdt 0 (qE .i64 (zt y0) 9)) (zt y0)) (.br (q8k 0 (qdt 0 (qE .i64 (zt y0) 9))) (.leaf (0,[(.s (qdF y0 0 (qdt 0 (qE .i64 (zt y0) 9)))),(.b y1),(.i (ql .i64 y2 1)),(.r (q91 y3 y2 0 [(.i (gI r0 0))]))])) .fail) .fail) .fail) .fail) .fail) .fail) .fail) (.leaf (1,[(.b y1),(.i y2),(.r y3)]))):=by kernel_rfl
theorem qjQ(x0:List UInt8):qX [.s x0]=(.br (inb 0 (zt x0)) (let r0:TR:=(qD [(.s x0),(.s [45])])
 .br (okR r0) (let r1:TR:=(qw q0H [(.s (gS r0 0)),(.b (ieq (sat x0 0) 45)),(.i 0),(.r (q2s 232 [(.i 0)]))])
 .br (okR r1) (let r2:TR:=(qm [(.b (gB r1 0)),(.i (gI r1 1)),(.r (gR r1 2))])
 .br (okR r2) (.leaf (0,[(.b (gB r2 0)),(.i (gI r2 1)),(.r (gR r2 2))])) .fail) .fail) .fail) .fail):=by kernel_rfl
theorem q8V(y0:Int)(y1:Bool)(y2:Int)(y3:R)(y4:Bool)(y5:Int)(y6:R):vo [.i y0,.b y1,.i y2,.r y3,.b y4,.i y5,.r y6]=(.br (ile 0 y0) (.br (inb y0 232) (.br (inb y0 232) (.br (inb y0 232) (.br (inb y0 232) (.br (ine (cI y3 y0 0) (cI y6 y0 0)) (.br (inb y0 232) (.br (inb y0 232) (.br (inb y0 232) (.br (inb y0 232) (.leaf (2,[(.i (qE .i64 (cI y3 y0 0) (cI y6 y0 0))),(.b y1),(.i y2),(.r y3),(.b y4),(.i y5),(.r y6)])) .fail) .fail) .fail) .fail) (.leaf (0,[(.i (qE .i64 y0 1)),(.b y1),(.i y2),(.r y3),(.b y4),(.i y5),(.r y6)]))) .fail) .fail) .fail) .fail) (.leaf (1,[(.b y1),(.i y2),(.r y3),(.b y4),(.i y5),(.r y6)]))):=by kernel_rfl
theorem qaM(x0:Bool)(x1:Int)(x2:R)(x3:Bool)(x4:Int)(x5:R):z6 [.b x0,.i x1,.r x2,.b x3,.i x4,.r x5]=(.br (ine x1 x4) (.leaf (0,[(.i (qE .i64 x1 x4)),(.b x0),(.i x1),(.r x2),(.b x3),(.i x4),(.r x5)])) (let r0:TR:=(qw vo [(.i (qE .i64 x1 1)),(.b x0),(.i x1),(.r x2),(.b x3),(.i x4),(.r x5)])
 .br (okR r0) (.br (jIs r0 0) (.leaf (0,[(.i 0),(.b (gB r0 0)),(.i (gI r0 1)),(.r (gR r0 2)),(.b (gB r0 3)),(.i (gI r0 4)),(.r (gR r0 5))])) (.leaf (0,[(.i (gI r0 0)),(.b (gB r0 1)),(.i (gI r0 2)),(.r (gR r0 3)),(.b (gB r0 4)),(.i (gI r0 5)),(.r (gR r0 6))]))) .fail)):=by kernel_rfl
theorem qeg(x0:Bool)(x1:Int)(x2:R)(x3:Bool)(x4:Int)(x5:R):vF [.b x0,.i x1,.r x2,.b x3,.i x4,.r x5]=(.br (ilt x4 0) (.br (ilt (qE .i64 x4 1) 0) (.br (ilt (qE .i64 x4 1) 0) (.br (ilt 1 x4) (.leaf (0,[(.i 1),(.b x0),(.i x1),(.r x2),(.b x3),(.i x4),(.r x5)])) .fail) (.br (ile x4 (qE .i64 x4 1)) (.br (ilt 1 x4) (.leaf (0,[(.i 1),(.b x0),(.i x1),(.r x2),(.b x3),(.i x4),(.r x5)])) .fail) (.br (inb (qE .i64 x4 1) 232) (.br (inb (qE .i64 x4 1) 232) (.br (ilt 1 x4) (.br (ine (ql .i64 (cI x5 (qE .i64 x4 1) 0) 1) 0) (.br (ilt 0 (jI .i64 0 (ql .i64 (cI x5 (qE .i64 x4 1) 0) 1))) (.leaf (0,[(.i (q5l (jI .i64 0 (ql .i64 (cI x5 (qE .i64 x4 1) 0) 1)) 999999999)),(.b x0),(.i x1),(.r x2),(.b x3),(.i x4),(.r x5)])) (.leaf (0,[(.i 1),(.b x0),(.i x1),(.r x2),(.b x3),(.i x4),(.r x5)]))) .fail) (.br (ine (cI x5 (qE .i64 x4 1) 0) 0) (.br (ilt 0 (jI .i64 0 (cI x5 (qE .i64 x4 1) 0))) (.leaf (0,[(.i (q5l (jI .i64 0 (cI x5 (qE .i64 x4 1) 0)) 999999999)),(.b x0),(.i x1),(.r x2),(.b x3),(.i x4),(.r x5)])) (.leaf (0,[(.i 1),(.b x0),(.i x1),(.r x2),(.b x3),(.i x4),(.r x5)]))) .fail)) .fail) .fail))) (.br (ile x1 (qE .i64 x4 1)) (.br (ilt (qE .i64 x4 1) 0) (.br (ilt 1 x4) (.leaf (0,[(.i 1),(.b x0),(.i x1),(.r x2),(.b x3),(.i x4),(.r x5)])) .fail) (.br (ile x4 (qE .i64 x4 1)) (.br (ilt 1 x4) (.leaf (0,[(.i 1),(.b x0),(.i x1),(.r x2),(.b x3),(.i x4),(.r x5)])) .fail) (.br (inb (qE .i64 x4 1) 232) (.br (inb (qE .i64 x4 1) 232) (.br (ilt 1 x4) (.br (ine (ql .i64 (cI x5 (qE .i64 x4 1) 0) 1) 0) (.br (ilt 0 (jI .i64 0 (ql .i64 (cI x5 (qE .i64 x4 1) 0) 1))) (.leaf (0,[(.i (q5l (jI .i64 0 (ql .i64 (cI x5 (qE .i64 x4 1) 0) 1)) 999999999)),(.b x0),(.i x1),(.r x2),(.b x3),(.i x4),(.r x5)])) (.leaf (0,[(.i 1),(.b x0),(.i x1),(.r x2),(.b x3),(.i x4),(.r x5)]))) .fail) (.br (ine (cI x5 (qE .i64 x4 1) 0) 0) (.br (ilt 0 (jI .i64 0 (cI x5 (qE .i64 x4 1) 0))) (.leaf (0,[(.i (q5l (jI .i64 0 (cI x5 (qE .i64 x4 1) 0)) 999999999)),(.b x0),(.i x1),(.r x2),(.b x3),(.i x4),(.r x5)])) (.leaf (0,[(.i 1),(.b x0),(.i x1),(.r x2),(.b x3),(.i x4),(.r x5)]))) .fail)) .fail) .fail))) (.br (inb (qE .i64 x4 1) 232) (.br (inb (qE .i64 x4 1) 232) (.br (ilt (qE .i64 x4 1) 0) (.br (ilt 1 x4) (.br (ilt 0 (jI .i64 (ql .i64 0 (cI x2 (qE .i64 x4 1) 0)) 1)) (.leaf (0,[(.i (q5l (jI .i64 (ql .i64 0 (cI x2 (qE .i64 x4 1) 0)) 1) 999999999)),(.b x0),(.i x1),(.r x2),(.b x3),(.i x4),(.r x5)])) (.leaf (0,[(.i 1),(.b x0),(.i x1),(.r x2),(.b x3),(.i x4),(.r x5)]))) .fail) (.br (ile x4 (qE .i64 x4 1)) (.br (ilt 1 x4) (.br (ilt 0 (jI .i64 (ql .i64 0 (cI x2 (qE .i64 x4 1) 0)) 1)) (.leaf (0,[(.i (q5l (jI .i64 (ql .i64 0 (cI x2 (qE .i64 x4 1) 0)) 1) 999999999)),(.b x0),(.i x1),(.r x2),(.b x3),(.i x4),(.r x5)])) (.leaf (0,[(.i 1),(.b x0),(.i x1),(.r x2),(.b x3),(.i x4),(.r x5)]))) .fail) (.br (inb (qE .i64 x4 1) 232) (.br (inb (qE .i64 x4 1) 232) (.br (ilt 1 x4) (.br (ine (ql .i64 (cI x5 (qE .i64 x4 1) 0) 1) 0) (.br (ilt 0 (jI .i64 (ql .i64 0 (cI x2 (qE .i64 x4 1) 0)) (ql .i64 (cI x5 (qE .i64 x4 1) 0) 1))) (.leaf (0,[(.i (q5l (jI .i64 (ql .i64 0 (cI x2 (qE .i64 x4 1) 0)) (ql .i64 (cI x5 (qE .i64 x4 1) 0) 1)) 999999999)),(.b x0),(.i x1),(.r x2),(.b x3),(.i x4),(.r x5)])) (.leaf (0,[(.i 1),(.b x0),(.i x1),(.r x2),(.b x3),(.i x4),(.r x5)]))) .fail) (.br (ine (cI x5 (qE .i64 x4 1) 0) 0) (.br (ilt 0 (jI .i64 (ql .i64 0 (cI x2 (qE .i64 x4 1) 0)) (cI x5 (qE .i64 x4 1) 0))) (.leaf (0,[(.i (q5l (jI .i64 (ql .i64 0 (cI x2 (qE .i64 x4 1) 0)) (cI x5 (qE .i64 x4 1) 0)) 999999999)),(.b x0),(.i x1),(.r x2),(.b x3),(.i x4),(.r x5)])) (.leaf (0,[(.i 1),(.b x0),(.i x1),(.r x2),(.b x3),(.i x4),(.r x5)]))) .fail)) .fail) .fail))) .fail) .fail))) (.br (ile x1 x4) (.br (ilt (qE .i64 x4 1) 0) (.br (ilt (qE .i64 x4 1) 0) (.br (ilt 1 x4) (.leaf (0,[(.i 1),(.b x0),(.i x1),(.r x2),(.b x3),(.i x4),(.r x5)])) .fail) (.br (ile x4 (qE .i64 x4 1)) (.br (ilt 1 x4) (.leaf (0,[(.i 1),(.b x0),(.i x1),(.r x2),(.b x3),(.i x4),(.r x5)])) .fail) (.br (inb (qE .i64 x4 1) 232) (.br (inb (qE .i64 x4 1) 232) (.br (ilt 1 x4) (.br (ine (ql .i64 (cI x5 (qE .i64 x4 1) 0) 1) 0) (.br (ilt 0 (jI .i64 0 (ql .i64 (cI x5 (qE .i64 x4 1) 0) 1))) (.leaf (0,[(.i (q5l (jI .i64 0 (ql .i64 (cI x5 (qE .i64 x4 1) 0) 1)) 999999999)),(.b x0),(.i x1),(.r x2),(.b x3),(.i x4),(.r x5)])) (.leaf (0,[(.i 1),(.b x0),(.i x1),(.r x2),(.b x3),(.i x4),(.r x5)]))) .fail) (.br (ine (cI x5 (qE .i64 x4 1) 0) 0) (.br (ilt 0 (jI .i64 0 (cI x5 (qE .i64 x4 1) 0))) (.leaf (0,[(.i (q5l (jI .i64 0 (cI x5 (qE .i64 x4 1) 0)) 999999999)),(.b x0),(.i x1),(.r x2),(.b x3),(.i x4),(.r x5)])) (.leaf (0,[(.i 1),(.b x0),(.i x1),(.r x2),(.b x3),(.i x4),(.r x5)]))) .fail)) .fail) .fail))) (.br (ile x1 (qE .i64 x4 1)) (.br (ilt (qE .i64 x4 1) 0) (.br (ilt 1 x4) (.leaf (0,[(.i 1),(.b x0),(.i x1),(.r x2),(.b x3),(.i x4),(.r x5)])) .fail) (.br (ile x4 (qE .i64 x4 1)) (.br (ilt 1 x4) (.leaf (0,[(.i 1),(.b x0),(.i x1),(.r x2),(.b x3),(.i x4),(.r x5)])) .fail) (.br (inb (qE .i64 x4 1) 232) (.br (inb (qE .i64 x4 1) 232) (.br (ilt 1 x4) (.br (ine (ql .i64 (cI x5 (qE .i64 x4 1) 0) 1) 0) (.br (ilt 0 (jI .i64 0 (ql .i64 (cI x5 (qE .i64 x4 1) 0) 1))) (.leaf (0,[(.i (q5l (jI .i64 0 (ql .i64 (cI x5 (qE .i64 x4 1) 0) 1)) 999999999)),(.b x0),(.i x1),(.r x2),(.b x3),(.i x4),(.r x5)])) (.leaf (0,[(.i 1),(.b x0),(.i x1),(.r x2),(.b x3),(.i x4),(.r x5)]))) .fail) (.br (ine (cI x5 (qE .i64 x4 1) 0) 0) (.br (ilt 0 (jI .i64 0 (cI x5 (qE .i64 x4 1) 0))) (.leaf (0,[(.i (q5l (jI .i64 0 (cI x5 (qE .i64 x4 1) 0)) 999999999)),(.b x0),(.i x1),(.r x2),(.b x3),(.i x4),(.r x5)])) (.leaf (0,[(.i 1),(.b x0),(.i x1),(.r x2),(.b x3),(.i x4),(.r x5)]))) .fail)) .fail) .fail))) (.br (inb (qE .i64 x4 1) 232) (.br (inb (qE .i64 x4 1) 232) (.br (ilt (qE .i64 x4 1) 0) (.br (ilt 1 x4) (.br (ilt 0 (jI .i64 (ql .i64 0 (cI x2 (qE .i64 x4 1) 0)) 1)) (.leaf (0,[(.i (q5l (jI .i64 (ql .i64 0 (cI x2 (qE .i64 x4 1) 0)) 1) 999999999)),(.b x0),(.i x1),(.r x2),(.b x3),(.i x4),(.r x5)])) (.leaf (0,[(.i 1),(.b x0),(.i x1),(.r x2),(.b x3),(.i x4),(.r x5)]))) .fail) (.br (ile x4 (qE .i64 x4 1)) (.br (ilt 1 x4) (.br (ilt 0 (jI .i64 (ql .i64 0 (cI x2 (qE .i64 x4 1) 0)) 1)) (.leaf (0,[(.i (q5l (jI .i64 (ql .i64 0 (cI x2 (qE .i64 x4 1) 0)) 1) 999999999)),(.b x0),(.i x1),(.r x2),(.b x3),(.i x4),(.r x5)])) (.leaf (0,[(.i 1),(.b x0),(.i x1),(.r x2),(.b x3),(.i x4),(.r x5)]))) .fail) (.br (inb (qE .i64 x4 1) 232) (.br (inb (qE .i64 x4 1) 232) (.br (ilt 1 x4) (.br (ine (ql .i64 (cI x5 (qE .i64 x4 1) 0) 1) 0) (.br (ilt 0 (jI .i64 (ql .i64 0 (cI x2 (qE .i64 x4 1) 0)) (ql .i64 (cI x5 (qE .i64 x4 1) 0) 1))) (.leaf (0,[(.i (q5l (jI .i64 (ql .i64 0 (cI x2 (qE .i64 x4 1) 0)) (ql .i64 (cI x5 (qE .i64 x4 1) 0) 1)) 999999999)),(.b x0),(.i x1),(.r x2),(.b x3),(.i x4),(.r x5)])) (.leaf (0,[(.i 1),(.b x0),(.i x1),(.r x2),(.b x3),(.i x4),(.r x5)]))) .fail) (.br (ine (cI x5 (qE .i64 x4 1) 0) 0) (.br (ilt 0 (jI .i64 (ql .i64 0 (cI x2 (qE .i64 x4 1) 0)) (cI x5 (qE .i64 x4 1) 0))) (.leaf (0,[(.i (q5l (jI .i64 (ql .i64 0 (cI x2 (qE .i64 x4 1) 0)) (cI x5 (qE .i64 x4 1) 0)) 999999999)),(.b x0),(.i x1),(.r x2),(.b x3),(.i x4),(.r x5)])) (.leaf (0,[(.i 1),(.b x0),(.i x1),(.r x2),(.b x3),(.i x4),(.r x5)]))) .fail)) .fail) .fail))) .fail) .fail))) (.br (inb x4 232) (.br (inb x4 232) (.br (ilt (qE .i64 x4 1) 0) (.br (ilt (qE .i64 x4 1) 0) (.br (ilt 1 x4) (.br (ilt 0 (jI .i64 (ql .i64 (yW .i64 (cI x2 x4 0) 1000000000) 0) 1)) (.leaf (0,[(.i (q5l (jI .i64 (ql .i64 (yW .i64 (cI x2 x4 0) 1000000000) 0) 1) 999999999)),(.b x0),(.i x1),(.r x2),(.b x3),(.i x4),(.r x5)])) (.leaf (0,[(.i 1),(.b x0),(.i x1),(.r x2),(.b x3),(.i x4),(.r x5)]))) .fail) (.br (ile x4 (qE .i64 x4 1)) (.br (ilt 1 x4) (.br (ilt 0 (jI .i64 (ql .i64 (yW .i64 (cI x2 x4 0) 1000000000) 0) 1)) (.leaf (0,[(.i (q5l (jI .i64 (ql .i64 (yW .i64 (cI x2 x4 0) 1000000000) 0) 1) 999999999)),(.b x0),(.i x1),(.r x2),(.b x3),(.i x4),(.r x5)])) (.leaf (0,[(.i 1),(.b x0),(.i x1),(.r x2),(.b x3),(.i x4),(.r x5)]))) .fail) (.br (inb (qE .i64 x4 1) 232) (.br (inb (qE .i64 x4 1) 232) (.br (ilt 1 x4) (.br (ine (ql .i64 (cI x5 (qE .i64 x4 1) 0) 1) 0) (.br (ilt 0 (jI .i64 (ql .i64 (yW .i64 (cI x2 x4 0) 1000000000) 0) (ql .i64 (cI x5 (qE .i64 x4 1) 0) 1))) (.leaf (0,[(.i (q5l (jI .i64 (ql .i64 (yW .i64 (cI x2 x4 0) 1000000000) 0) (ql .i64 (cI x5 (qE .i64 x4 1) 0) 1)) 999999999)),(.b x0),(.i x1),(.r x2),(.b x3),(.i x4),(.r x5)])) (.leaf (0,[(.i 1),(.b x0),(.i x1),(.r x2),(.b x3),(.i x4),(.r x5)]))) .fail) (.br (ine (cI x5 (qE .i64 x4 1) 0) 0) (.br (ilt 0 (jI .i64 (ql .i64 (yW .i64 (cI x2 x4 0) 1000000000) 0) (cI x5 (qE .i64 x4 1) 0))) (.leaf (0,[(.i (q5l (jI .i64 (ql .i64 (yW .i64 (cI x2 x4 0) 1000000000) 0) (cI x5 (qE .i64 x4 1) 0)) 999999999)),(.b x0),(.i x1),(.r x2),(.b x3),(.i x4),(.r x5)])) (.leaf (0,[(.i 1),(.b x0),(.i x1),(.r x2),(.b x3),(.i x4),(.r x5)]))) .fail)) .fail) .fail))) (.br (ile x1 (qE .i64 x4 1)) (.br (ilt (qE .i64 x4 1) 0) (.br (ilt 1 x4) (.br (ilt 0 (jI .i64 (ql .i64 (yW .i64 (cI x2 x4 0) 1000000000) 0) 1)) (.leaf (0,[(.i (q5l (jI .i64 (ql .i64 (yW .i64 (cI x2 x4 0) 1000000000) 0) 1) 999999999)),(.b x0),(.i x1),(.r x2),(.b x3),(.i x4),(.r x5)])) (.leaf (0,[(.i 1),(.b x0),(.i x1),(.r x2),(.b x3),(.i x4),(.r x5)]))) .fail) (.br (ile x4 (qE .i64 x4 1)) (.br (ilt 1 x4) (.br (ilt 0 (jI .i64 (ql .i64 (yW .i64 (cI x2 x4 0) 1000000000) 0) 1)) (.leaf (0,[(.i (q5l (jI .i64 (ql .i64 (yW .i64 (cI x2 x4 0) 1000000000) 0) 1) 999999999)),(.b x0),(.i x1),(.r x2),(.b x3),(.i x4),(.r x5)])) (.leaf (0,[(.i 1),(.b x0),(.i x1),(.r x2),(.b x3),(.i x4),(.r x5)]))) .fail) (.br (inb (qE .i64 x4 1) 232) (.br (inb (qE .i64 x4 1) 232) (.br (ilt 1 x4) (.br (ine (ql .i64 (cI x5 (qE .i64 x4 1) 0) 1) 0) (.br (ilt 0 (jI .i64 (ql .i64 (yW .i64 (cI x2 x4 0) 1000000000) 0) (ql .i64 (cI x5 (qE .i64 x4 1) 0) 1))) (.leaf (0,[(.i (q5l (jI .i64 (ql .i64 (yW .i64 (cI x2 x4 0) 1000000000) 0) (ql .i64 (cI x5 (qE .i64 x4 1) 0) 1)) 999999999)),(.b x0),(.i x1),(.r x2),(.b x3),(.i x4),(.r x5)])) (.leaf (0,[(.i 1),(.b x0),(.i x1),(.r x2),(.b x3),(.i x4),(.r x5)]))) .fail) (.br (ine (cI x5 (qE .i64 x4 1) 0) 0) (.br (ilt 0 (jI .i64 (ql .i64 (yW .i64 (cI x2 x4 0) 1000000000) 0) (cI x5 (qE .i64 x4 1) 0))) (.leaf (0,[(.i (q5l (jI .i64 (ql .i64 (yW .i64 (cI x2 x4 0) 1000000000) 0) (cI x5 (qE .i64 x4 1) 0)) 999999999)),(.b x0),(.i x1),(.r x2),(.b x3),(.i x4),(.r x5)])) (.leaf (0,[(.i 1),(.b x0),(.i x1),(.r x2),(.b x3),(.i x4),(.r x5)]))) .fail)) .fail) .fail))) (.br (inb (qE .i64 x4 1) 232) (.br (inb (qE .i64 x4 1) 232) (.br (ilt (qE .i64 x4 1) 0) (.br (ilt 1 x4) (.br (ilt 0 (jI .i64 (ql .i64 (yW .i64 (cI x2 x4 0) 1000000000) (cI x2 (qE .i64 x4 1) 0)) 1)) (.leaf (0,[(.i (q5l (jI .i64 (ql .i64 (yW .i64 (cI x2 x4 0) 1000000000) (cI x2 (qE .i64 x4 1) 0)) 1) 999999999)),(.b x0),(.i x1),(.r x2),(.b x3),(.i x4),(.r x5)])) (.leaf (0,[(.i 1),(.b x0),(.i x1),(.r x2),(.b x3),(.i x4),(.r x5)]))) .fail) (.br (ile x4 (qE .i64 x4 1)) (.br (ilt 1 x4) (.br (ilt 0 (jI .i64 (ql .i64 (yW .i64 (cI x2 x4 0) 1000000000) (cI x2 (qE .i64 x4 1) 0)) 1)) (.leaf (0,[(.i (q5l (jI .i64 (ql .i64 (yW .i64 (cI x2 x4 0) 1000000000) (cI x2 (qE .i64 x4 1) 0)) 1) 999999999)),(.b x0),(.i x1),(.r x2),(.b x3),(.i x4),(.r x5)])) (.leaf (0,[(.i 1),(.b x0),(.i x1),(.r x2),(.b x3),(.i x4),(.r x5)]))) .fail) (.br (inb (qE .i64 x4 1) 232) (.br (inb (qE .i64 x4 1) 232) (.br (ilt 1 x4) (.br (ine (ql .i64 (cI x5 (qE .i64 x4 1) 0) 1) 0) (.br (ilt 0 (jI .i64 (ql .i64 (yW .i64 (cI x2 x4 0) 1000000000) (cI x2 (qE .i64 x4 1) 0)) (ql .i64 (cI x5 (qE .i64 x4 1) 0) 1))) (.leaf (0,[(.i (q5l (jI .i64 (ql .i64 (yW .i64 (cI x2 x4 0) 1000000000) (cI x2 (qE .i64 x4 1) 0)) (ql .i64 (cI x5 (qE .i64 x4 1) 0) 1)) 999999999)),(.b x0),(.i x1),(.r x2),(.b x3),(.i x4),(.r x5)])) (.leaf (0,[(.i 1),(.b x0),(.i x1),(.r x2),(.b x3),(.i x4),(.r x5)]))) .fail) (.br (ine (cI x5 (qE .i64 x4 1) 0) 0) (.br (ilt 0 (jI .i64 (ql .i64 (yW .i64 (cI x2 x4 0) 1000000000) (cI x2 (qE .i64 x4 1) 0)) (cI x5 (qE .i64 x4 1) 0))) (.leaf (0,[(.i (q5l (jI .i64 (ql .i64 (yW .i64 (cI x2 x4 0) 1000000000) (cI x2 (qE .i64 x4 1) 0)) (cI x5 (qE .i64 x4 1) 0)) 999999999)),(.b x0),(.i x1),(.r x2),(.b x3),(.i x4),(.r x5)])) (.leaf (0,[(.i 1),(.b x0),(.i x1),(.r x2),(.b x3),(.i x4),(.r x5)]))) .fail)) .fail) .fail))) .fail) .fail))) .fail) .fail))):=by kernel_rfl
theorem q3i(y0:Int)(y1:Int)(y2:Int)(y3:Int)(y4:Bool)(y5:Int)(y6:R)(y7:Bool)(y8:Int)(y9:R):wB [.i y0,.i y1,.i y2,.i y3,.b y4,.i y5,.r y6,.b y7,.i y8,.r y9]=(.br (ilt y3 y8) (.br (inb (ql .i64 y3 y1) 232) (.br (inb (ql .i64 y3 y1) 232) (.br (ilt y3 y8) (.br (inb y3 232) (.br (inb y3 232) (.br (ilt (qE .i64 (ql .i64 (ql .i64 (cI y6 (ql .i64 y3 y1) 0) y2) (yW .i64 y0 (cI y9 y3 0))) (yW .i64 (jI .i64 (ql .i64 (ql .i64 (cI y6 (ql .i64 y3 y1) 0) y2) (yW .i64 y0 (cI y9 y3 0))) 1000000000) 1000000000)) 0) (.br (inb (ql .i64 y3 y1) 232) (.br (inb (ql .i64 y3 y1) 232) (.leaf (0,[(.i y0),(.i y1),(.i (qE .i64 (jI .i64 (ql .i64 (ql .i64 (cI y6 (ql .i64 y3 y1) 0) y2) (yW .i64 y0 (cI y9 y3 0))) 1000000000) 1)),(.i (ql .i64 y3 1)),(.b y4),(.i (qdt y5 (ql .i64 (ql .i64 y3 y1) 1))),(.r (q91 y6 (ql .i64 y3 y1) 0 [(.i (ql .i64 (qE .i64 (ql .i64 (ql .i64 (cI y6 (ql .i64 y3 y1) 0) y2) (yW .i64 y0 (cI y9 y3 0))) (yW .i64 (jI .i64 (ql .i64 (ql .i64 (cI y6 (ql .i64 y3 y1) 0) y2) (yW .i64 y0 (cI y9 y3 0))) 1000000000) 1000000000)) 1000000000))])),(.b y7),(.i y8),(.r y9)])) .fail) .fail) (.br (inb (ql .i64 y3 y1) 232) (.br (inb (ql .i64 y3 y1) 232) (.leaf (0,[(.i y0),(.i y1),(.i (jI .i64 (ql .i64 (ql .i64 (cI y6 (ql .i64 y3 y1) 0) y2) (yW .i64 y0 (cI y9 y3 0))) 1000000000)),(.i (ql .i64 y3 1)),(.b y4),(.i (qdt y5 (ql .i64 (ql .i64 y3 y1) 1))),(.r (q91 y6 (ql .i64 y3 y1) 0 [(.i (qE .i64 (ql .i64 (ql .i64 (cI y6 (ql .i64 y3 y1) 0) y2) (yW .i64 y0 (cI y9 y3 0))) (yW .i64 (jI .i64 (ql .i64 (ql .i64 (cI y6 (ql .i64 y3 y1) 0) y2) (yW .i64 y0 (cI y9 y3 0))) 1000000000) 1000000000)))])),(.b y7),(.i y8),(.r y9)])) .fail) .fail)) .fail) .fail) (.br (ilt (qE .i64 (ql .i64 (cI y6 (ql .i64 y3 y1) 0) y2) (yW .i64 (jI .i64 (ql .i64 (cI y6 (ql .i64 y3 y1) 0) y2) 1000000000) 1000000000)) 0) (.br (inb (ql .i64 y3 y1) 232) (.br (inb (ql .i64 y3 y1) 232) (.leaf (0,[(.i y0),(.i y1),(.i (qE .i64 (jI .i64 (ql .i64 (cI y6 (ql .i64 y3 y1) 0) y2) 1000000000) 1)),(.i (ql .i64 y3 1)),(.b y4),(.i (qdt y5 (ql .i64 (ql .i64 y3 y1) 1))),(.r (q91 y6 (ql .i64 y3 y1) 0 [(.i (ql .i64 (qE .i64 (ql .i64 (cI y6 (ql .i64 y3 y1) 0) y2) (yW .i64 (jI .i64 (ql .i64 (cI y6 (ql .i64 y3 y1) 0) y2) 1000000000) 1000000000)) 1000000000))])),(.b y7),(.i y8),(.r y9)])) .fail) .fail) (.br (inb (ql .i64 y3 y1) 232) (.br (inb (ql .i64 y3 y1) 232) (.leaf (0,[(.i y0),(.i y1),(.i (jI .i64 (ql .i64 (cI y6 (ql .i64 y3 y1) 0) y2) 1000000000)),(.i (ql .i64 y3 1)),(.b y4),(.i (qdt y5 (ql .i64 (ql .i64 y3 y1) 1))),(.r (q91 y6 (ql .i64 y3 y1) 0 [(.i (qE .i64 (ql .i64 (cI y6 (ql .i64 y3 y1) 0) y2) (yW .i64 (jI .i64 (ql .i64 (cI y6 (ql .i64 y3 y1) 0) y2) 1000000000) 1000000000)))])),(.b y7),(.i y8),(.r y9)])) .fail) .fail))) .fail) .fail) (.br (ine y2 0) (.br (inb (ql .i64 y3 y1) 232) (.br (inb (ql .i64 y3 y1) 232) (.br (ilt y3 y8) (.br (inb y3 232) (.br (inb y3 232) (.br (ilt (qE .i64 (ql .i64 (ql .i64 (cI y6 (ql .i64 y3 y1) 0) y2) (yW .i64 y0 (cI y9 y3 0))) (yW .i64 (jI .i64 (ql .i64 (ql .i64 (cI y6 (ql .i64 y3 y1) 0) y2) (yW .i64 y0 (cI y9 y3 0))) 1000000000) 1000000000)) 0) (.br (inb (ql .i64 y3 y1) 232) (.br (inb (ql .i64 y3 y1) 232) (.leaf (0,[(.i y0),(.i y1),(.i (qE .i64 (jI .i64 (ql .i64 (ql .i64 (cI y6 (ql .i64 y3 y1) 0) y2) (yW .i64 y0 (cI y9 y3 0))) 1000000000) 1)),(.i (ql .i64 y3 1)),(.b y4),(.i (qdt y5 (ql .i64 (ql .i64 y3 y1) 1))),(.r (q91 y6 (ql .i64 y3 y1) 0 [(.i (ql .i64 (qE .i64 (ql .i64 (ql .i64 (cI y6 (ql .i64 y3 y1) 0) y2) (yW .i64 y0 (cI y9 y3 0))) (yW .i64 (jI .i64 (ql .i64 (ql .i64 (cI y6 (ql .i64 y3 y1) 0) y2) (yW .i64 y0 (cI y9 y3 0))) 1000000000) 1000000000)) 1000000000))])),(.b y7),(.i y8),(.r y9)])) .fail) .fail) (.br (inb (ql .i64 y3 y1) 232) (.br (inb (ql .i64 y3 y1) 232) (.leaf (0,[(.i y0),(.i y1),(.i (jI .i64 (ql .i64 (ql .i64 (cI y6 (ql .i64 y3 y1) 0) y2) (yW .i64 y0 (cI y9 y3 0))) 1000000000)),(.i (ql .i64 y3 1)),(.b y4),(.i (qdt y5 (ql .i64 (ql .i64 y3 y1) 1))),(.r (q91 y6 (ql .i64 y3 y1) 0 [(.i (qE .i64 (ql .i64 (ql .i64 (cI y6 (ql .i64 y3 y1) 0) y2) (yW .i64 y0 (cI y9 y3 0))) (yW .i64 (jI .i64 (ql .i64 (ql .i64 (cI y6 (ql .i64 y3 y1) 0) y2) (yW .i64 y0 (cI y9 y3 0))) 1000000000) 1000000000)))])),(.b y7),(.i y8),(.r y9)])) .fail) .fail)) .fail) .fail) (.br (ilt (qE .i64 (ql .i64 (cI y6 (ql .i64 y3 y1) 0) y2) (yW .i64 (jI .i64 (ql .i64 (cI y6 (ql .i64 y3 y1) 0) y2) 1000000000) 1000000000)) 0) (.br (inb (ql .i64 y3 y1) 232) (.br (inb (ql .i64 y3 y1) 232) (.leaf (0,[(.i y0),(.i y1),(.i (qE .i64 (jI .i64 (ql .i64 (cI y6 (ql .i64 y3 y1) 0) y2) 1000000000) 1)),(.i (ql .i64 y3 1)),(.b y4),(.i (qdt y5 (ql .i64 (ql .i64 y3 y1) 1))),(.r (q91 y6 (ql .i64 y3 y1) 0 [(.i (ql .i64 (qE .i64 (ql .i64 (cI y6 (ql .i64 y3 y1) 0) y2) (yW .i64 (jI .i64 (ql .i64 (cI y6 (ql .i64 y3 y1) 0) y2) 1000000000) 1000000000)) 1000000000))])),(.b y7),(.i y8),(.r y9)])) .fail) .fail) (.br (inb (ql .i64 y3 y1) 232) (.br (inb (ql .i64 y3 y1) 232) (.leaf (0,[(.i y0),(.i y1),(.i (jI .i64 (ql .i64 (cI y6 (ql .i64 y3 y1) 0) y2) 1000000000)),(.i (ql .i64 y3 1)),(.b y4),(.i (qdt y5 (ql .i64 (ql .i64 y3 y1) 1))),(.r (q91 y6 (ql .i64 y3 y1) 0 [(.i (qE .i64 (ql .i64 (cI y6 (ql .i64 y3 y1) 0) y2) (yW .i64 (jI .i64 (ql .i64 (cI y6 (ql .i64 y3 y1) 0) y2) 1000000000) 1000000000)))])),(.b y7),(.i y8),(.r y9)])) .fail) .fail))) .fail) .fail) (.leaf (1,[(.b y4),(.i y5),(.r y6),(.b y7),(.i y8),(.r y9)])))):=by kernel_rfl
theorem qby(x0:Int)(x1:Int)(x2:Bool)(x3:Int)(x4:R)(x5:Bool)(x6:Int)(x7:R):qx [.i x0,.i x1,.b x2,.i x3,.r x4,.b x5,.i x6,.r x7]=(let r0:TR:=(qw wB [(.i x0),(.i x1),(.i 0),(.i 0),(.b x2),(.i x3),(.r x4),(.b x5),(.i x6),(.r x7)])
 .br (okR r0) (let r1:TR:=(qm [(.b (gB r0 0)),(.i (gI r0 1)),(.r (gR r0 2))])
 .br (okR r1) (.leaf (0,[(.b (gB r1 0)),(.i (gI r1 1)),(.r (gR r1 2)),(.b (gB r0 3)),(.i (gI r0 4)),(.r (gR r0 5))])) .fail) .fail):=by kernel_rfl
theorem qbX(y0:Int)(y1:Int)(y2:Bool)(y3:Int)(y4:R)(y5:Bool)(y6:Int)(y7:R)(y8:Bool)(y9:Int)(y10:R)(y11:Bool)(y12:Int)(y13:R):vt [.i y0,.i y1,.b y2,.i y3,.r y4,.b y5,.i y6,.r y7,.b y8,.i y9,.r y10,.b y11,.i y12,.r y13]=(let r0:TR:=(z6 [(.b y11),(.i y12),(.r y13),(.b y5),(.i y6),(.r y7)])
 .br (okR r0) (.br (ile 0 (gI r0 0)) (let r1:TR:=(vF [(.b (gB r0 1)),(.i (gI r0 2)),(.r (gR r0 3)),(.b (gB r0 4)),(.i (gI r0 5)),(.r (gR r0 6))])
 .br (okR r1) (let r2:TR:=(qx [(.i (qE .i64 0 (gI r1 0))),(.i 0),(.b (gB r1 1)),(.i (gI r1 2)),(.r (gR r1 3)),(.b (gB r1 4)),(.i (gI r1 5)),(.r (gR r1 6))])
 .br (okR r2) (.leaf (0,[(.i y0),(.i (ql .i64 y1 (gI r1 0))),(.b y2),(.i y3),(.r y4),(.b (gB r2 3)),(.i (gI r2 4)),(.r (gR r2 5)),(.b y8),(.i y9),(.r y10),(.b (gB r2 0)),(.i (gI r2 1)),(.r (gR r2 2))])) .fail) .fail) (.leaf (1,[(.i y0),(.i y1),(.b y2),(.i y3),(.r y4),(.b (gB r0 4)),(.i (gI r0 5)),(.r (gR r0 6)),(.b y8),(.i y9),(.r y10),(.b (gB r0 1)),(.i (gI r0 2)),(.r (gR r0 3))]))) .fail):=by kernel_rfl
theorem qda(y0:Int)(y1:Bool)(y2:Int)(y3:R)(y4:Bool)(y5:Int)(y6:R)(y7:Bool)(y8:Int)(y9:R)(y10:Bool)(y11:Int)(y12:R):yO [.i y0,.b y1,.i y2,.r y3,.b y4,.i y5,.r y6,.b y7,.i y8,.r y9,.b y10,.i y11,.r y12]=(.br (ile 0 y0) (.br (q8k 232 232) (.br (q8k 1 232) (.br (q8k y11 232) (.br (q8k 0 y11) (.br (inb y0 232) (.br (inb y0 232) (let r0:TR:=(qm [(.b y10),(.i (ql .i64 y11 1)),(.r (q91 (qdh y12 1 y12 0 (q5l (qpS y11 0) (qpS 232 1))) 0 0 [(.i (cI y3 y0 0))]))])
 .br (okR r0) (let r1:TR:=(qw vt [(.i y0),(.i 0),(.b y1),(.i y2),(.r y3),(.b y4),(.i y5),(.r y6),(.b y7),(.i y8),(.r y9),(.b (gB r0 0)),(.i (gI r0 1)),(.r (gR r0 2))])
 .br (okR r1) (.br (inb (gI r1 0) 232) (.br (inb (gI r1 0) 232) (.leaf (0,[(.i (qE .i64 (gI r1 0) 1)),(.b (gB r1 2)),(.i (gI r1 3)),(.r (gR r1 4)),(.b (gB r1 5)),(.i (gI r1 6)),(.r (gR r1 7)),(.b (gB r1 8)),(.i (qdt (gI r1 9) (ql .i64 (gI r1 0) 1))),(.r (q91 (gR r1 10) (gI r1 0) 0 [(.i (gI r1 1))])),(.b (gB r1 11)),(.i (gI r1 12)),(.r (gR r1 13))])) .fail) .fail) .fail) .fail) .fail) .fail) .fail) .fail) .fail) .fail) (.leaf (1,[(.b y1),(.i y2),(.r y3),(.b y4),(.i y5),(.r y6),(.b y7),(.i y8),(.r y9),(.b y10),(.i y11),(.r y12)]))):=by kernel_rfl
theorem qfo(x0:Bool)(x1:Int)(x2:R)(x3:Bool)(x4:Int)(x5:R):zJ [.b x0,.i x1,.r x2,.b x3,.i x4,.r x5]=(let r0:TR:=(qw yO [(.i (qE .i64 x1 1)),(.b x0),(.i x1),(.r x2),(.b x3),(.i x4),(.r x5),(.b false),(.i 0),(.r (q2s 232 [(.i 0)])),(.b false),(.i 0),(.r (q2s 232 [(.i 0)]))])
 .br (okR r0) (let r1:TR:=(qm [(.b (gB r0 6)),(.i (gI r0 7)),(.r (gR r0 8))])
 .br (okR r1) (.leaf (0,[(.b (gB r0 0)),(.i (gI r0 1)),(.r (gR r0 2)),(.b (gB r0 3)),(.i (gI r0 4)),(.r (gR r0 5)),(.b (gB r1 0)),(.i (gI r1 1)),(.r (gR r1 2)),(.b (gB r0 9)),(.i (gI r0 10)),(.r (gR r0 11))])) .fail) .fail):=by kernel_rfl
theorem qhn(y0:Int)(y1:Int):uJ [.i y0,.i y1]=(.br (ine y1 0) (.br (ine y1 0) (.leaf (0,[(.i y1),(.i (q5v y0 y1))])) .fail) (.leaf (1,[(.i y0)]))):=by kernel_rfl
theorem qhv(y0:Bool)(y1:Int)(y2:R)(y3:Bool)(y4:Int)(y5:R):q24 [.b y0,.i y1,.r y2,.b y3,.i y4,.r y5]=(.br (ilt 0 y4) (.br (ile y1 1) (.br (ile y4 1) (let r0:TR:=(qw uJ [(.i (cI y2 0 0)),(.i (cI y5 0 0))])
 .br (okR r0) (let r1:TR:=(qV [(.i (gI r0 0))])
 .br (okR r1) (.leaf (2,[(.s (gS r1 0)),(.i 0)])) .fail) .fail) (let r0:TR:=(zJ [(.b y0),(.i y1),(.r y2),(.b y3),(.i y4),(.r y5)])
 .br (okR r0) (.leaf (0,[(.b (gB r0 3)),(.i (gI r0 4)),(.r (gR r0 5)),(.b (gB r0 9)),(.i (gI r0 10)),(.r (gR r0 11))])) .fail)) (let r0:TR:=(zJ [(.b y0),(.i y1),(.r y2),(.b y3),(.i y4),(.r y5)])
 .br (okR r0) (.leaf (0,[(.b (gB r0 3)),(.i (gI r0 4)),(.r (gR r0 5)),(.b (gB r0 9)),(.i (gI r0 10)),(.r (gR r0 11))])) .fail)) (.leaf (1,[(.b y0),(.i y1),(.r y2)]))):=by kernel_rfl
theorem qll(x0:List UInt8)(x1:List UInt8):km [.s x0,.s x1]=(let r0:TR:=(zi [(.r [[(.s x0)],[(.s x1)]])])
 .br (okR r0) (.br (ine (gI r0 0) 0) (.leaf (0,[(.s []),(.i (gI r0 0))])) (let r1:TR:=(qX [(.s x0)])
 .br (okR r1) (let r2:TR:=(qX [(.s x1)])
 .br (okR r2) (let r3:TR:=(qw q24 [(.b (gB r1 0)),(.i (gI r1 1)),(.r (gR r1 2)),(.b (gB r2 0)),(.i (gI r2 1)),(.r (gR r2 2))])
 .br (okR r3) (.br (jIs r3 0) (let r4:TR:=(qy [(.b false),(.i (gI r3 1)),(.r (gR r3 2))])
 .br (okR r4) (.leaf (0,[(.s (gS r4 0)),(.i 0)])) .fail) (.leaf (0,[(.s (gS r3 0)),(.i (gI r3 1))]))) .fail) .fail) .fail)) .fail):=by kernel_rfl
theorem qhu(x0:List UInt8):wx [.s x0]=(let r0:TR:=(qA [(.s x0)])
 .br (okR r0) (let r1:TR:=(qz [(.s (gS r0 0))])
 .br (okR r1) (let r2:TR:=(qz [(.s (gS r0 1))])
 .br (okR r2) (.br (ieq (gI r1 0) 3) (.leaf (0,[(.i 3)])) (.br (ieq (gI r2 0) 3) (.leaf (0,[(.i 3)])) (.br (ine (gI r1 0) 0) (.leaf (0,[(.i (qdt (gI r1 0) (gI r2 0)))])) (.br (ine (gI r2 0) 0) (.leaf (0,[(.i (qdt (gI r1 0) (gI r2 0)))])) (.br (not (gB r0 2)) (.leaf (0,[(.i 0)])) (let r3:TR:=(kp [(.s (gS r0 1)),(.s [49])])
 .br (okR r3) (let r4:TR:=(km [(.s (gS r0 0)),(.s (gS r0 1))])
 .br (okR r4) (.br (ine (gI r3 1) 0) (.leaf (0,[(.i 3)])) (.br (ine (gI r4 1) 0) (.leaf (0,[(.i 3)])) (.br (ile (gI r3 0) 0) (.leaf (0,[(.i 3)])) (.br (not (seq (gS r4 0) [49])) (.leaf (0,[(.i 3)])) (.leaf (0,[(.i 0)])))))) .fail) .fail)))))) .fail) .fail) .fail):=by kernel_rfl
theorem q0P(y0:Int)(y1:Int)(y2:List UInt8)(y3:List UInt8)(y4:List UInt8)(y5:R):kt [.i y0,.i y1,.s y2,.s y3,.s y4,.r y5]=(.br (ilt y1 y0) (.br (inb y1 (qh y5)) (let r0:TR:=(wx [(.s (cS y5 y1 0))])
 .br (okR r0) (.br (ine (gI r0 0) 0) (.leaf (2,[(.i (gI r0 0))])) (.leaf (0,[(.i y0),(.i (ql .i64 y1 1)),(.s y2),(.s y3),(.s y4),(.r y5)]))) .fail) .fail) (.leaf (1,[(.s y2),(.s y3),(.s y4)]))):=by kernel_rfl
theorem qhQ(x0:List UInt8)(x1:List UInt8)(x2:List UInt8):kU [.s x0,.s x1,.s x2]=(let r0:TR:=(qw kt [(.i (qh [[(.s x0)],[(.s x1)],[(.s x2)]])),(.i 0),(.s x0),(.s x1),(.s x2),(.r [[(.s x0)],[(.s x1)],[(.s x2)]])])
 .br (okR r0) (.br (jIs r0 0) (.br (inb 0 (zt (gS r0 2))) (.br (ieq (sat (gS r0 2) 0) 45) (.leaf (0,[(.i 2)])) (.leaf (0,[(.i 0)]))) .fail) (.leaf (0,[(.i (gI r0 0))]))) .fail):=by kernel_rfl
theorem q9t(y0:R)(y1:R)(y2:Int)(y3:Int):q0z [.r y0,.r y1,.i y2,.i y3]=(.br (ilt y3 y2) (.br (inb y3 (qh y1)) (let r0:TR:=(kU [(.s (cS y1 y3 0)),(.s (cS y1 y3 1)),(.s (cS y1 y3 2))])
 .br (okR r0) (.br (ine (gI r0 0) 0) (.leaf (2,[(.i (gI r0 0))])) (.leaf (0,[(.r y0),(.r y1),(.i y2),(.i (ql .i64 y3 1))]))) .fail) .fail) (.leaf (1,[(.r y0)]))):=by kernel_rfl
theorem qke(x0:R):q1j [.r x0]=(.br (ilt 64 (qh x0)) (.leaf (0,[(.i 5)])) (let r0:TR:=(qw q0z [(.r x0),(.r x0),(.i (qh x0)),(.i 0)])
 .br (okR r0) (.br (jIs r0 0) (.br (ieq (qh (gR r0 0)) 0) (.leaf (0,[(.i 13)])) (.leaf (0,[(.i 0)]))) (.leaf (0,[(.i (gI r0 0))]))) .fail)):=by kernel_rfl
theorem qi3(x0:List UInt8)(x1:List UInt8):vR [.s x0,.s x1]=(.br (ilt 9 (zt x0)) (.leaf (0,[(.i 0),(.i 0),(.b false)])) (.br (ilt 9 (zt x1)) (.leaf (0,[(.i 0),(.i 0),(.b false)])) (.br (okR (wt [(.s x0)])) (.br (okR (wt [(.s x1)])) (.leaf (0,[(.i (gI (wt [(.s x0)]) 0)),(.i (gI (wt [(.s x1)]) 0)),(.b true)])) .fail) .fail))):=by kernel_rfl
theorem qh5(x0:Int):jZ [.i x0]=(.br (okR (qV [(.i x0)])) (.leaf (0,[(.s (gS (qV [(.i x0)]) 0)),(.i 0)])) .fail):=by kernel_rfl
theorem q9B(y0:Int)(y1:Int)(y2:Bool)(y3:Int)(y4:R)(y5:Bool)(y6:Int)(y7:R)(y8:Bool)(y9:Int)(y10:R):vJ [.i y0,.i y1,.b y2,.i y3,.r y4,.b y5,.i y6,.r y7,.b y8,.i y9,.r y10]=(.br (ilt y1 y0) (.br (inb y1 232) (.br (inb y1 232) (let r0:TR:=(qx [(.i (cI y7 y1 0)),(.i y1),(.b y8),(.i y9),(.r y10),(.b y2),(.i y3),(.r y4)])
 .br (okR r0) (.leaf (0,[(.i y0),(.i (ql .i64 y1 1)),(.b (gB r0 3)),(.i (gI r0 4)),(.r (gR r0 5)),(.b y5),(.i y6),(.r y7),(.b (gB r0 0)),(.i (gI r0 1)),(.r (gR r0 2))])) .fail) .fail) .fail) (.leaf (1,[(.b y2),(.i y3),(.r y4),(.b y5),(.i y6),(.r y7),(.b y8),(.i y9),(.r y10)]))):=by kernel_rfl
theorem qbU(x0:Bool)(x1:Int)(x2:R)(x3:Bool)(x4:Int)(x5:R):jG [.b x0,.i x1,.r x2,.b x3,.i x4,.r x5]=(let r0:TR:=(qw vJ [(.i x4),(.i 0),(.b x0),(.i x1),(.r x2),(.b x3),(.i x4),(.r x5),(.b (not (beq x0 x3))),(.i 0),(.r (q2s 232 [(.i 0)]))])
 .br (okR r0) (.leaf (0,[(.b (gB r0 0)),(.i (gI r0 1)),(.r (gR r0 2)),(.b (gB r0 3)),(.i (gI r0 4)),(.r (gR r0 5)),(.b (gB r0 6)),(.i (gI r0 7)),(.r (gR r0 8))])) .fail):=by kernel_rfl
theorem q96(x0:Bool)(x1:Int)(x2:R):zg [.b x0,.i x1,.r x2]=(let r0:TR:=(qy [(.b x0),(.i x1),(.r x2)])
 .br (okR r0) (let r1:TR:=(qz [(.s (gS r0 0))])
 .br (okR r1) (.br (ine (gI r1 0) 0) (.leaf (0,[(.s []),(.i (gI r1 0)),(.b (gB r0 1)),(.i (gI r0 2)),(.r (gR r0 3))])) (.leaf (0,[(.s (gS r0 0)),(.i 0),(.b (gB r0 1)),(.i (gI r0 2)),(.r (gR r0 3))]))) .fail) .fail):=by kernel_rfl
theorem qlj(x0:List UInt8)(x1:List UInt8):q1a [.s x0,.s x1]=(let r0:TR:=(zi [(.r [[(.s x0)],[(.s x1)]])])
 .br (okR r0) (.br (ine (gI r0 0) 0) (.leaf (0,[(.s []),(.i (gI r0 0))])) (let r1:TR:=(vR [(.s x0),(.s x1)])
 .br (okR r1) (.br (gB r1 2) (let r2:TR:=(jZ [(.i (yW .i64 (gI r1 0) (gI r1 1)))])
 .br (okR r2) (.leaf (0,[(.s (gS r2 0)),(.i (gI r2 1))])) .fail) (let r2:TR:=(qX [(.s x0)])
 .br (okR r2) (let r3:TR:=(qX [(.s x1)])
 .br (okR r3) (let r4:TR:=(jG [(.b (gB r2 0)),(.i (gI r2 1)),(.r (gR r2 2)),(.b (gB r3 0)),(.i (gI r3 1)),(.r (gR r3 2))])
 .br (okR r4) (let r5:TR:=(zg [(.b (gB r4 6)),(.i (gI r4 7)),(.r (gR r4 8))])
 .br (okR r5) (.leaf (0,[(.s (gS r5 0)),(.i (gI r5 1))])) .fail) .fail) .fail) .fail)) .fail)) .fail):=by kernel_rfl
theorem q5F(x0:List UInt8)(x1:List UInt8)(x2:Int):ze [.s x0,.s x1,.i x2]=(.br (ine x2 0) (.leaf (0,[(.s [48]),(.i x2)])) (let r0:TR:=(q1a [(.s x0),(.s x1)])
 .br (okR r0) (.br (ine (gI r0 1) 0) (.leaf (0,[(.s [48]),(.i (gI r0 1))])) (.leaf (0,[(.s (gS r0 0)),(.i (gI r0 1))]))) .fail)):=by kernel_rfl
theorem q51(y0:List UInt8)(y1:R)(y2:Int)(y3:Int)(y4:Int):vr [.s y0,.r y1,.i y2,.i y3,.i y4]=(.br (ilt y3 y2) (.br (inb y3 (qh y1)) (let r0:TR:=(ze [(.s y0),(.s (cS y1 y3 0)),(.i y4)])
 .br (okR r0) (.leaf (0,[(.s (gS r0 0)),(.r y1),(.i y2),(.i (ql .i64 y3 1)),(.i (gI r0 1))])) .fail) .fail) (.leaf (1,[(.s y0),(.i y4)]))):=by kernel_rfl
theorem qeu(x0:R)(x1:Int):qg [.r x0,.i x1]=(let r0:TR:=(qw vr [(.s [49]),(.r x0),(.i (qh x0)),(.i 0),(.i x1)])
 .br (okR r0) (.leaf (0,[(.s (gS r0 0)),(.i (gI r0 1))])) .fail):=by kernel_rfl
theorem qd1(x0:Bool)(x1:Int)(x2:R)(x3:Bool)(x4:Int)(x5:R):zv [.b x0,.i x1,.r x2,.b x3,.i x4,.r x5]=(.br (beq x0 x3) (let r0:TR:=(qx [(.i 1),(.i 0),(.b x0),(.i x1),(.r x2),(.b x3),(.i x4),(.r x5)])
 .br (okR r0) (.leaf (0,[(.b (gB r0 0)),(.i (gI r0 1)),(.r (gR r0 2)),(.b (gB r0 3)),(.i (gI r0 4)),(.r (gR r0 5))])) .fail) (let r0:TR:=(z6 [(.b x0),(.i x1),(.r x2),(.b x3),(.i x4),(.r x5)])
 .br (okR r0) (.br (ile 0 (gI r0 0)) (let r1:TR:=(qx [(.i (-1)),(.i 0),(.b (gB r0 1)),(.i (gI r0 2)),(.r (gR r0 3)),(.b (gB r0 4)),(.i (gI r0 5)),(.r (gR r0 6))])
 .br (okR r1) (.leaf (0,[(.b (gB r1 0)),(.i (gI r1 1)),(.r (gR r1 2)),(.b (gB r1 3)),(.i (gI r1 4)),(.r (gR r1 5))])) .fail) (let r1:TR:=(qx [(.i (-1)),(.i 0),(.b (gB r0 4)),(.i (gI r0 5)),(.r (gR r0 6)),(.b (gB r0 1)),(.i (gI r0 2)),(.r (gR r0 3))])
 .br (okR r1) (.leaf (0,[(.b (gB r1 0)),(.i (gI r1 1)),(.r (gR r1 2)),(.b (gB r0 4)),(.i (gI r0 5)),(.r (gR r0 6))])) .fail)) .fail)):=by kernel_rfl
theorem q6Q(y0:R)(y1:Int)(y2:Int)(y3:Bool)(y4:Int)(y5:R):q1W [.r y0,.i y1,.i y2,.b y3,.i y4,.r y5]=(.br (ilt y2 y1) (.br (inb y2 (qh y0)) (let r0:TR:=(qX [(.s (cS y0 y2 0))])
 .br (okR r0) (let r1:TR:=(zv [(.b y3),(.i y4),(.r y5),(.b (gB r0 0)),(.i (gI r0 1)),(.r (gR r0 2))])
 .br (okR r1) (.leaf (0,[(.r y0),(.i y1),(.i (ql .i64 y2 1)),(.b (gB r1 0)),(.i (gI r1 1)),(.r (gR r1 2))])) .fail) .fail) .fail) (.leaf (1,[(.b y3),(.i y4),(.r y5)]))):=by kernel_rfl
theorem qlF(x0:R):q5q [.r x0]=(let r0:TR:=(qw q1W [(.r x0),(.i (qh x0)),(.i 0),(.b false),(.i 0),(.r (q2s 232 [(.i 0)]))])
 .br (okR r0) (let r1:TR:=(zg [(.b (gB r0 0)),(.i (gI r0 1)),(.r (gR r0 2))])
 .br (okR r1) (.leaf (0,[(.s (gS r1 0)),(.i (gI r1 1))])) .fail) .fail):=by kernel_rfl
theorem qkp(x0:List UInt8)(x1:List UInt8):kj [.s x0,.s x1]=(let r0:TR:=(zi [(.r [[(.s x0)],[(.s x1)]])])
 .br (okR r0) (.br (ine (gI r0 0) 0) (.leaf (0,[(.s []),(.i (gI r0 0))])) (let r1:TR:=(vR [(.s x0),(.s x1)])
 .br (okR r1) (.br (gB r1 2) (let r2:TR:=(jZ [(.i (ql .i64 (gI r1 0) (gI r1 1)))])
 .br (okR r2) (.leaf (0,[(.s (gS r2 0)),(.i (gI r2 1))])) .fail) (let r2:TR:=(q5q [(.r [[(.s x0)],[(.s x1)]])])
 .br (okR r2) (.leaf (0,[(.s (gS r2 0)),(.i (gI r2 1))])) .fail)) .fail)) .fail):=by kernel_rfl
theorem qe1(x0:List UInt8):uG [.s x0]=(let r0:TR:=(j1 [(.s x0)])
 .br (okR r0) (.br (ieq (gI r0 0) 0) (.leaf (0,[(.s x0)])) (.br (ieq (gI r0 0) 1) (.br (ile ((zt [45])+(zt x0)) 140737488355328) (.leaf (0,[(.s (qlH [45] x0))])) .fail) (.br (q8k (zt x0) (zt x0)) (.br (q8k 1 (zt x0)) (.leaf (0,[(.s (qdF x0 1 (zt x0)))])) .fail) .fail))) .fail):=by kernel_rfl
theorem qlv(x0:List UInt8)(x1:List UInt8):q2H [.s x0,.s x1]=(let r0:TR:=(zi [(.r [[(.s x0)],[(.s x1)]])])
 .br (okR r0) (.br (ine (gI r0 0) 0) (.leaf (0,[(.s []),(.i (gI r0 0))])) (let r1:TR:=(uG [(.s x1)])
 .br (okR r1) (let r2:TR:=(kj [(.s x0),(.s (gS r1 0))])
 .br (okR r2) (.leaf (0,[(.s (gS r2 0)),(.i (gI r2 1))])) .fail) .fail)) .fail):=by kernel_rfl
theorem q5A(x0:List UInt8)(x1:List UInt8)(x2:Int):zL [.s x0,.s x1,.i x2]=(.br (ine x2 0) (.leaf (0,[(.s [48]),(.i x2)])) (let r0:TR:=(q2H [(.s x0),(.s x1)])
 .br (okR r0) (.br (ine (gI r0 1) 0) (.leaf (0,[(.s [48]),(.i (gI r0 1))])) (.leaf (0,[(.s (gS r0 0)),(.i (gI r0 1))]))) .fail)):=by kernel_rfl
theorem qet(x0:List UInt8)(x1:List UInt8)(x2:Int):qT [.s x0,.s x1,.i x2]=(let r0:TR:=(zL [(.s x0),(.s x1),(.i x2)])
 .br (okR r0) (.leaf (0,[(.s (gS r0 0)),(.i (gI r0 1))])) .fail):=by kernel_rfl
theorem qhx(x0:List UInt8)(x1:List UInt8)(x2:List UInt8)(x3:List UInt8)(x4:Int):kP [.s x0,.s x1,.s x2,.s x3,.i x4]=(let r0:TR:=(qg [(.r [[(.s x0)],[(.s x3)]]),(.i x4)])
 .br (okR r0) (let r1:TR:=(qg [(.r [[(.s x2)],[(.s x1)]]),(.i (gI r0 1))])
 .br (okR r1) (let r2:TR:=(qT [(.s (gS r0 0)),(.s (gS r1 0)),(.i (gI r1 1))])
 .br (okR r2) (let r3:TR:=(qg [(.r [[(.s x1)],[(.s x3)]]),(.i (gI r2 1))])
 .br (okR r3) (.leaf (0,[(.s (gS r2 0)),(.s (gS r3 0)),(.i (gI r3 1))])) .fail) .fail) .fail) .fail):=by kernel_rfl
theorem qaS(x0:List UInt8)(x1:List UInt8):jk [.s x0,.s x1]=(let r0:TR:=(qt [(.s x0),(.s x1)])
 .br (okR r0) (.leaf (0,[(.b (gB r0 0))])) .fail):=by kernel_rfl
theorem qfY(x0:List UInt8)(x1:List UInt8):uH [.s x0,.s x1]=(.br (seq x1 [49]) (.leaf (0,[(.s x0)])) (.br (ile ((zt x0)+(zt [47])) 140737488355328) (.br (ile ((zt (qlH x0 [47]))+(zt x1)) 140737488355328) (.leaf (0,[(.s (qlH (qlH x0 [47]) x1))])) .fail) .fail)):=by kernel_rfl
theorem qh3(x0:List UInt8)(x1:List UInt8):q0F [.s x0,.s x1]=(let r0:TR:=(zi [(.r [[(.s x0)],[(.s x1)]])])
 .br (okR r0) (.br (ine (gI r0 0) 0) (.leaf (0,[(.s []),(.s []),(.i (gI r0 0))])) (.br (seq x1 [48]) (.leaf (0,[(.s []),(.s []),(.i 10)])) (let r1:TR:=(vR [(.s x0),(.s x1)])
 .br (okR r1) (.br (gB r1 2) (.br (ine (gI r1 1) 0) (.br (ine (gI r1 1) 0) (.br (ine (q5v (gI r1 0) (gI r1 1)) 0) (.br (not (beq (ilt (q5v (gI r1 0) (gI r1 1)) 0) (ilt (gI r1 1) 0))) (let r2:TR:=(qV [(.i (qE .i64 (jI .i64 (gI r1 0) (gI r1 1)) 1))])
 .br (okR r2) (let r3:TR:=(qV [(.i (ql .i64 (q5v (gI r1 0) (gI r1 1)) (gI r1 1)))])
 .br (okR r3) (.leaf (0,[(.s (gS r2 0)),(.s (gS r3 0)),(.i 0)])) .fail) .fail) (let r2:TR:=(qV [(.i (jI .i64 (gI r1 0) (gI r1 1)))])
 .br (okR r2) (let r3:TR:=(qV [(.i (q5v (gI r1 0) (gI r1 1)))])
 .br (okR r3) (.leaf (0,[(.s (gS r2 0)),(.s (gS r3 0)),(.i 0)])) .fail) .fail)) (let r2:TR:=(qV [(.i (jI .i64 (gI r1 0) (gI r1 1)))])
 .br (okR r2) (let r3:TR:=(qV [(.i (q5v (gI r1 0) (gI r1 1)))])
 .br (okR r3) (.leaf (0,[(.s (gS r2 0)),(.s (gS r3 0)),(.i 0)])) .fail) .fail)) .fail) .fail) (let r2:TR:=(qX [(.s x0)])
 .br (okR r2) (let r3:TR:=(qX [(.s x1)])
 .br (okR r3) (let r4:TR:=(zJ [(.b (gB r2 0)),(.i (gI r2 1)),(.r (gR r2 2)),(.b (gB r3 0)),(.i (gI r3 1)),(.r (gR r3 2))])
 .br (okR r4) (.br (ilt 0 (gI r4 10)) (.br (not (beq (gB r4 0) (gB r4 3))) (let r5:TR:=(zv [(.b true),(.i (gI r4 7)),(.r (gR r4 8)),(.b true),(.i 1),(.r (q91 (q2s 232 [(.i 0)]) 0 0 [(.i 1)]))])
 .br (okR r5) (let r6:TR:=(zv [(.b (gB r4 0)),(.i (gI r4 10)),(.r (gR r4 11)),(.b (gB r4 3)),(.i (gI r4 4)),(.r (gR r4 5))])
 .br (okR r6) (let r7:TR:=(qy [(.b (gB r5 0)),(.i (gI r5 1)),(.r (gR r5 2))])
 .br (okR r7) (let r8:TR:=(qy [(.b (gB r6 0)),(.i (gI r6 1)),(.r (gR r6 2))])
 .br (okR r8) (.leaf (0,[(.s (gS r7 0)),(.s (gS r8 0)),(.i 0)])) .fail) .fail) .fail) .fail) (let r5:TR:=(qy [(.b (not (beq (gB r4 0) (gB r4 3)))),(.i (gI r4 7)),(.r (gR r4 8))])
 .br (okR r5) (let r6:TR:=(qy [(.b (gB r4 0)),(.i (gI r4 10)),(.r (gR r4 11))])
 .br (okR r6) (.leaf (0,[(.s (gS r5 0)),(.s (gS r6 0)),(.i 0)])) .fail) .fail)) (let r5:TR:=(qy [(.b (not (beq (gB r4 0) (gB r4 3)))),(.i (gI r4 7)),(.r (gR r4 8))])
 .br (okR r5) (let r6:TR:=(qy [(.b (gB r4 0)),(.i (gI r4 10)),(.r (gR r4 11))])
 .br (okR r6) (.leaf (0,[(.s (gS r5 0)),(.s (gS r6 0)),(.i 0)])) .fail) .fail)) .fail) .fail) .fail)) .fail))) .fail):=by kernel_rfl
theorem qlr(x0:List UInt8)(x1:List UInt8):q2r [.s x0,.s x1]=(let r0:TR:=(q0F [(.s x0),(.s x1)])
 .br (okR r0) (.br (ine (gI r0 2) 0) (.leaf (0,[(.s []),(.i (gI r0 2))])) (let r1:TR:=(qz [(.s (gS r0 0))])
 .br (okR r1) (.br (ine (gI r1 0) 0) (.leaf (0,[(.s []),(.i (gI r1 0))])) (.leaf (0,[(.s (gS r0 0)),(.i 0)]))) .fail)) .fail):=by kernel_rfl
theorem q5D(x0:List UInt8)(x1:List UInt8)(x2:Int):zO [.s x0,.s x1,.i x2]=(.br (ine x2 0) (.leaf (0,[(.s [48]),(.i x2)])) (let r0:TR:=(km [(.s x0),(.s x1)])
 .br (okR r0) (.br (ine (gI r0 1) 0) (.leaf (0,[(.s [48]),(.i (gI r0 1))])) (.leaf (0,[(.s (gS r0 0)),(.i (gI r0 1))]))) .fail)):=by kernel_rfl
theorem q5C(x0:List UInt8)(x1:List UInt8)(x2:Int):qG [.s x0,.s x1,.i x2]=(.br (ine x2 0) (.leaf (0,[(.s [48]),(.i x2)])) (let r0:TR:=(q2r [(.s x0),(.s x1)])
 .br (okR r0) (.br (ine (gI r0 1) 0) (.leaf (0,[(.s [48]),(.i (gI r0 1))])) (.leaf (0,[(.s (gS r0 0)),(.i (gI r0 1))]))) .fail)):=by kernel_rfl
theorem qaV(x0:List UInt8)(x1:List UInt8)(x2:Int):qp [.s x0,.s x1,.i x2]=(let r0:TR:=(zO [(.s x0),(.s x1),(.i x2)])
 .br (okR r0) (let r1:TR:=(jk [(.s x1),(.s [45])])
 .br (okR r1) (.br (gB r1 0) (let r2:TR:=(qT [(.s [48]),(.s (gS r0 0)),(.i (gI r0 1))])
 .br (okR r2) (.br (ine (gI r2 1) 0) (.leaf (0,[(.s []),(.i (gI r2 1))])) (let r3:TR:=(qG [(.s x0),(.s (gS r2 0)),(.i (gI r2 1))])
 .br (okR r3) (let r4:TR:=(qG [(.s x1),(.s (gS r2 0)),(.i (gI r3 1))])
 .br (okR r4) (let r5:TR:=(uH [(.s (gS r3 0)),(.s (gS r4 0))])
 .br (okR r5) (.leaf (0,[(.s (gS r5 0)),(.i (gI r4 1))])) .fail) .fail) .fail)) .fail) (.br (ine (gI r0 1) 0) (.leaf (0,[(.s []),(.i (gI r0 1))])) (let r2:TR:=(qG [(.s x0),(.s (gS r0 0)),(.i (gI r0 1))])
 .br (okR r2) (let r3:TR:=(qG [(.s x1),(.s (gS r0 0)),(.i (gI r2 1))])
 .br (okR r3) (let r4:TR:=(uH [(.s (gS r2 0)),(.s (gS r3 0))])
 .br (okR r4) (.leaf (0,[(.s (gS r4 0)),(.i (gI r3 1))])) .fail) .fail) .fail))) .fail) .fail):=by kernel_rfl
theorem q7v(y0:R)(y1:Int)(y2:Int):uq [.r y0,.i y1,.i y2]=(.br (ilt y2 y1) (.br (inb y2 (qh y0)) (let r0:TR:=(wx [(.s (cS y0 y2 0))])
 .br (okR r0) (.br (ine (gI r0 0) 0) (.leaf (2,[(.i (gI r0 0))])) (.leaf (0,[(.r y0),(.i y1),(.i (ql .i64 y2 1))]))) .fail) .fail) (.leaf (1,[]))):=by kernel_rfl
theorem qfU(x0:R):qH [.r x0]=(let r0:TR:=(qw uq [(.r x0),(.i (qh x0)),(.i 0)])
 .br (okR r0) (.br (jIs r0 0) (.leaf (0,[(.i 0)])) (.leaf (0,[(.i (gI r0 0))]))) .fail):=by kernel_rfl
theorem q6J(x0:List UInt8)(x1:List UInt8):wk [.s x0,.s x1]=(let r0:TR:=(qH [(.r [[(.s x0)],[(.s x1)]])])
 .br (okR r0) (.br (ine (gI r0 0) 0) (.leaf (0,[(.s []),(.i (gI r0 0))])) (let r1:TR:=(qA [(.s x0)])
 .br (okR r1) (let r2:TR:=(qA [(.s x1)])
 .br (okR r2) (let r3:TR:=(kP [(.s (gS r1 0)),(.s (gS r1 1)),(.s (gS r2 0)),(.s (gS r2 1)),(.i 0)])
 .br (okR r3) (.br (ine (gI r3 2) 0) (.leaf (0,[(.s []),(.i (gI r3 2))])) (.br (seq (gS r3 1) [48]) (.leaf (0,[(.s []),(.i 10)])) (let r4:TR:=(qp [(.s (gS r3 0)),(.s (gS r3 1)),(.i (gI r3 2))])
 .br (okR r4) (.leaf (0,[(.s (gS r4 0)),(.i (gI r4 1))])) .fail))) .fail) .fail) .fail)) .fail):=by kernel_rfl
theorem qla(x0:List UInt8)(x1:List UInt8):q2y [.s x0,.s x1]=(let r0:TR:=(wk [(.s x0),(.s x1)])
 .br (okR r0) (.leaf (0,[(.s (gS r0 0)),(.i (gI r0 1))])) .fail):=by kernel_rfl
theorem q5G(x0:List UInt8)(x1:List UInt8)(x2:Int):zI [.s x0,.s x1,.i x2]=(.br (ine x2 0) (.leaf (0,[(.s [48]),(.i x2)])) (let r0:TR:=(q2y [(.s x0),(.s x1)])
 .br (okR r0) (.br (ine (gI r0 1) 0) (.leaf (0,[(.s [48]),(.i (gI r0 1))])) (.leaf (0,[(.s (gS r0 0)),(.i (gI r0 1))]))) .fail)):=by kernel_rfl
theorem qei(x0:List UInt8)(x1:List UInt8)(x2:Int):qK [.s x0,.s x1,.i x2]=(let r0:TR:=(zI [(.s x0),(.s x1),(.i x2)])
 .br (okR r0) (.leaf (0,[(.s (gS r0 0)),(.i (gI r0 1))])) .fail):=by kernel_rfl
theorem q5H(x0:List UInt8)(x1:List UInt8)(x2:Int):zH [.s x0,.s x1,.i x2]=(.br (ine x2 0) (.leaf (0,[(.s [48]),(.i x2)])) (let r0:TR:=(kj [(.s x0),(.s x1)])
 .br (okR r0) (.br (ine (gI r0 1) 0) (.leaf (0,[(.s [48]),(.i (gI r0 1))])) (.leaf (0,[(.s (gS r0 0)),(.i (gI r0 1))]))) .fail)):=by kernel_rfl
theorem qe4(x0:List UInt8)(x1:List UInt8)(x2:Int):vE [.s x0,.s x1,.i x2]=(let r0:TR:=(zH [(.s x0),(.s x1),(.i x2)])
 .br (okR r0) (.leaf (0,[(.s (gS r0 0)),(.i (gI r0 1))])) .fail):=by kernel_rfl
theorem qhz(x0:List UInt8)(x1:List UInt8)(x2:List UInt8)(x3:List UInt8)(x4:Int):q03 [.s x0,.s x1,.s x2,.s x3,.i x4]=(let r0:TR:=(qg [(.r [[(.s x0)],[(.s x3)]]),(.i x4)])
 .br (okR r0) (let r1:TR:=(qg [(.r [[(.s x2)],[(.s x1)]]),(.i (gI r0 1))])
 .br (okR r1) (let r2:TR:=(vE [(.s (gS r0 0)),(.s (gS r1 0)),(.i (gI r1 1))])
 .br (okR r2) (let r3:TR:=(qg [(.r [[(.s x1)],[(.s x3)]]),(.i (gI r2 1))])
 .br (okR r3) (.leaf (0,[(.s (gS r2 0)),(.s (gS r3 0)),(.i (gI r3 1))])) .fail) .fail) .fail) .fail):=by kernel_rfl
theorem q6q(x0:List UInt8)(x1:List UInt8):wj [.s x0,.s x1]=(let r0:TR:=(qH [(.r [[(.s x0)],[(.s x1)]])])
 .br (okR r0) (.br (ine (gI r0 0) 0) (.leaf (0,[(.s []),(.i (gI r0 0))])) (let r1:TR:=(qA [(.s x0)])
 .br (okR r1) (let r2:TR:=(qA [(.s x1)])
 .br (okR r2) (let r3:TR:=(q03 [(.s (gS r1 0)),(.s (gS r1 1)),(.s (gS r2 0)),(.s (gS r2 1)),(.i 0)])
 .br (okR r3) (.br (ine (gI r3 2) 0) (.leaf (0,[(.s []),(.i (gI r3 2))])) (.br (seq (gS r3 1) [48]) (.leaf (0,[(.s []),(.i 10)])) (let r4:TR:=(qp [(.s (gS r3 0)),(.s (gS r3 1)),(.i (gI r3 2))])
 .br (okR r4) (.leaf (0,[(.s (gS r4 0)),(.i (gI r4 1))])) .fail))) .fail) .fail) .fail)) .fail):=by kernel_rfl
theorem qkC(x0:List UInt8)(x1:List UInt8):q2E [.s x0,.s x1]=(let r0:TR:=(wj [(.s x0),(.s x1)])
 .br (okR r0) (.leaf (0,[(.s (gS r0 0)),(.i (gI r0 1))])) .fail):=by kernel_rfl
theorem q5B(x0:List UInt8)(x1:List UInt8)(x2:Int):zE [.s x0,.s x1,.i x2]=(.br (ine x2 0) (.leaf (0,[(.s [48]),(.i x2)])) (let r0:TR:=(q2E [(.s x0),(.s x1)])
 .br (okR r0) (.br (ine (gI r0 1) 0) (.leaf (0,[(.s [48]),(.i (gI r0 1))])) (.leaf (0,[(.s (gS r0 0)),(.i (gI r0 1))]))) .fail)):=by kernel_rfl
theorem qdR(x0:List UInt8)(x1:List UInt8)(x2:Int):z7 [.s x0,.s x1,.i x2]=(let r0:TR:=(zE [(.s x0),(.s x1),(.i x2)])
 .br (okR r0) (.leaf (0,[(.s (gS r0 0)),(.i (gI r0 1))])) .fail):=by kernel_rfl
theorem qi5(x0:List UInt8)(x1:List UInt8)(x2:List UInt8)(x3:List UInt8)(x4:Int):q07 [.s x0,.s x1,.s x2,.s x3,.i x4]=(let r0:TR:=(qg [(.r [[(.s x0)],[(.s x2)]]),(.i x4)])
 .br (okR r0) (let r1:TR:=(qg [(.r [[(.s x1)],[(.s x3)]]),(.i (gI r0 1))])
 .br (okR r1) (.leaf (0,[(.s (gS r0 0)),(.s (gS r1 0)),(.i (gI r1 1))])) .fail) .fail):=by kernel_rfl
theorem q6o(x0:List UInt8)(x1:List UInt8):wi [.s x0,.s x1]=(let r0:TR:=(qH [(.r [[(.s x0)],[(.s x1)]])])
 .br (okR r0) (.br (ine (gI r0 0) 0) (.leaf (0,[(.s []),(.i (gI r0 0))])) (let r1:TR:=(qA [(.s x0)])
 .br (okR r1) (let r2:TR:=(qA [(.s x1)])
 .br (okR r2) (let r3:TR:=(q07 [(.s (gS r1 0)),(.s (gS r1 1)),(.s (gS r2 0)),(.s (gS r2 1)),(.i 0)])
 .br (okR r3) (.br (ine (gI r3 2) 0) (.leaf (0,[(.s []),(.i (gI r3 2))])) (.br (seq (gS r3 1) [48]) (.leaf (0,[(.s []),(.i 10)])) (let r4:TR:=(qp [(.s (gS r3 0)),(.s (gS r3 1)),(.i (gI r3 2))])
 .br (okR r4) (.leaf (0,[(.s (gS r4 0)),(.i (gI r4 1))])) .fail))) .fail) .fail) .fail)) .fail):=by kernel_rfl
theorem qkK(x0:List UInt8)(x1:List UInt8):ul [.s x0,.s x1]=(let r0:TR:=(wi [(.s x0),(.s x1)])
 .br (okR r0) (.leaf (0,[(.s (gS r0 0)),(.i (gI r0 1))])) .fail):=by kernel_rfl
theorem q5E(x0:List UInt8)(x1:List UInt8)(x2:Int):zR [.s x0,.s x1,.i x2]=(.br (ine x2 0) (.leaf (0,[(.s [48]),(.i x2)])) (let r0:TR:=(ul [(.s x0),(.s x1)])
 .br (okR r0) (.br (ine (gI r0 1) 0) (.leaf (0,[(.s [48]),(.i (gI r0 1))])) (.leaf (0,[(.s (gS r0 0)),(.i (gI r0 1))]))) .fail)):=by kernel_rfl
theorem qem(x0:List UInt8)(x1:List UInt8)(x2:Int):qJ [.s x0,.s x1,.i x2]=(let r0:TR:=(zR [(.s x0),(.s x1),(.i x2)])
 .br (okR r0) (.leaf (0,[(.s (gS r0 0)),(.i (gI r0 1))])) .fail):=by kernel_rfl
theorem qdo(x0:List UInt8)(x1:List UInt8)(x2:List UInt8)(x3:List UInt8)(x4:Int):wP [.s x0,.s x1,.s x2,.s x3,.i x4]=(let r0:TR:=(qK [(.s x0),(.s x2),(.i x4)])
 .br (okR r0) (let r1:TR:=(qK [(.s x1),(.s x3),(.i (gI r0 1))])
 .br (okR r1) (.leaf (0,[(.s (gS r0 0)),(.s (gS r1 0)),(.i (gI r1 1))])) .fail) .fail):=by kernel_rfl
theorem qdN(x0:List UInt8)(x1:List UInt8)(x2:List UInt8)(x3:List UInt8)(x4:Int):zT [.s x0,.s x1,.s x2,.s x3,.i x4]=(let r0:TR:=(qJ [(.s x0),(.s x2),(.i x4)])
 .br (okR r0) (let r1:TR:=(qJ [(.s x1),(.s x3),(.i (gI r0 1))])
 .br (okR r1) (let r2:TR:=(z7 [(.s (gS r0 0)),(.s (gS r1 0)),(.i (gI r1 1))])
 .br (okR r2) (.leaf (0,[(.s (gS r2 0)),(.i (gI r2 1))])) .fail) .fail) .fail):=by kernel_rfl
theorem qi4(x0:List UInt8)(x1:List UInt8)(x2:List UInt8)(x3:List UInt8)(x4:Int):kY [.s x0,.s x1,.s x2,.s x3,.i x4]=(let r0:TR:=(qg [(.r [[(.s x0)],[(.s x3)]]),(.i x4)])
 .br (okR r0) (let r1:TR:=(qg [(.r [[(.s x1)],[(.s x2)]]),(.i (gI r0 1))])
 .br (okR r1) (.leaf (0,[(.s (gS r0 0)),(.s (gS r1 0)),(.i (gI r1 1))])) .fail) .fail):=by kernel_rfl
theorem q6u(x0:List UInt8)(x1:List UInt8):wd [.s x0,.s x1]=(let r0:TR:=(qH [(.r [[(.s x0)],[(.s x1)]])])
 .br (okR r0) (.br (ine (gI r0 0) 0) (.leaf (0,[(.s []),(.i (gI r0 0))])) (let r1:TR:=(qA [(.s x0)])
 .br (okR r1) (let r2:TR:=(qA [(.s x1)])
 .br (okR r2) (let r3:TR:=(kY [(.s (gS r1 0)),(.s (gS r1 1)),(.s (gS r2 0)),(.s (gS r2 1)),(.i 0)])
 .br (okR r3) (.br (ine (gI r3 2) 0) (.leaf (0,[(.s []),(.i (gI r3 2))])) (.br (seq (gS r3 1) [48]) (.leaf (0,[(.s []),(.i 10)])) (let r4:TR:=(qp [(.s (gS r3 0)),(.s (gS r3 1)),(.i (gI r3 2))])
 .br (okR r4) (.leaf (0,[(.s (gS r4 0)),(.i (gI r4 1))])) .fail))) .fail) .fail) .fail)) .fail):=by kernel_rfl
theorem qkr(x0:List UInt8)(x1:List UInt8):q2m [.s x0,.s x1]=(let r0:TR:=(qH [(.r [[(.s x0)],[(.s x1)]])])
 .br (okR r0) (.br (ine (gI r0 0) 0) (.leaf (0,[(.s []),(.i (gI r0 0))])) (.br (seq x1 [48]) (.leaf (0,[(.s []),(.i 10)])) (let r1:TR:=(wd [(.s x0),(.s x1)])
 .br (okR r1) (.leaf (0,[(.s (gS r1 0)),(.i (gI r1 1))])) .fail))) .fail):=by kernel_rfl
theorem q5z(x0:List UInt8)(x1:List UInt8)(x2:Int):zf [.s x0,.s x1,.i x2]=(.br (ine x2 0) (.leaf (0,[(.s [48]),(.i x2)])) (let r0:TR:=(q2m [(.s x0),(.s x1)])
 .br (okR r0) (.br (ine (gI r0 1) 0) (.leaf (0,[(.s [48]),(.i (gI r0 1))])) (.leaf (0,[(.s (gS r0 0)),(.i (gI r0 1))]))) .fail)):=by kernel_rfl
theorem qc6(x0:R)(x1:Int)(x2:Int)(x3:Int)(x4:Int):wu [.r x0,.i x1,.i x2,.i x3,.i x4]=(.br (inb x1 (qh x0)) (.br (inb x2 (qh x0)) (.br (ieq x1 x2) (.leaf (0,[(.s (cS x0 x1 0)),(.s (cS x0 x1 1)),(.s [48]),(.s [48]),(.s [48]),(.b (ieq x3 0)),(.i x4)])) (let r0:TR:=(wP [(.s (cS x0 x2 0)),(.s (cS x0 x2 1)),(.s (cS x0 x1 0)),(.s (cS x0 x1 1)),(.i x4)])
 .br (okR r0) (let r1:TR:=(zT [(.s (gS r0 0)),(.s (gS r0 1)),(.s (gS r0 0)),(.s (gS r0 1)),(.i (gI r0 2))])
 .br (okR r1) (.br (seq (gS r1 0) [48]) (.leaf (0,[(.s []),(.s []),(.s []),(.s []),(.s []),(.b false),(.i (gI r1 1))])) (let r2:TR:=(z7 [(.s (gS r1 0)),(.s (cS x0 x1 2)),(.i (gI r1 1))])
 .br (okR r2) (let r3:TR:=(qK [(.s (gS r2 0)),(.s (cS x0 x2 2)),(.i (gI r2 1))])
 .br (okR r3) (let r4:TR:=(qJ [(.s [50]),(.s (gS r1 0)),(.i (gI r3 1))])
 .br (okR r4) (let r5:TR:=(zf [(.s (gS r3 0)),(.s (gS r4 0)),(.i (gI r4 1))])
 .br (okR r5) (let r6:TR:=(qJ [(.s (gS r5 0)),(.s (gS r0 0)),(.i (gI r5 1))])
 .br (okR r6) (let r7:TR:=(z7 [(.s (cS x0 x1 0)),(.s (gS r6 0)),(.i (gI r6 1))])
 .br (okR r7) (let r8:TR:=(qJ [(.s (gS r5 0)),(.s (gS r0 1)),(.i (gI r7 1))])
 .br (okR r8) (let r9:TR:=(z7 [(.s (cS x0 x1 1)),(.s (gS r8 0)),(.i (gI r8 1))])
 .br (okR r9) (let r10:TR:=(qK [(.s [48]),(.s (gS r0 1)),(.i (gI r9 1))])
 .br (okR r10) (let r11:TR:=(zf [(.s (cS x0 x1 2)),(.s (gS r1 0)),(.i (gI r10 1))])
 .br (okR r11) (let r12:TR:=(qJ [(.s (gS r5 0)),(.s (gS r5 0)),(.i (gI r11 1))])
 .br (okR r12) (let r13:TR:=(qK [(.s (gS r11 0)),(.s (gS r12 0)),(.i (gI r12 1))])
 .br (okR r13) (.br (ilt x3 0) (let r14:TR:=(qK [(.s [48]),(.s (gS r0 0)),(.i (gI r13 1))])
 .br (okR r14) (.br (ieq (gI r14 1) 0) (.br (inb 0 (zt (gS r13 0))) (.br (ine (sat (gS r13 0) 0) 45) (.leaf (0,[(.s (gS r7 0)),(.s (gS r9 0)),(.s (gS r0 1)),(.s (gS r14 0)),(.s (gS r13 0)),(.b (beq (seq (gS r13 0) [48]) (ieq x3 0))),(.i (gI r14 1))])) (.leaf (0,[(.s (gS r7 0)),(.s (gS r9 0)),(.s (gS r0 1)),(.s (gS r14 0)),(.s (gS r13 0)),(.b false),(.i (gI r14 1))]))) .fail) (.leaf (0,[(.s (gS r7 0)),(.s (gS r9 0)),(.s (gS r0 1)),(.s (gS r14 0)),(.s (gS r13 0)),(.b false),(.i (gI r14 1))]))) .fail) (.br (ieq (gI r13 1) 0) (.br (inb 0 (zt (gS r13 0))) (.br (ine (sat (gS r13 0) 0) 45) (.leaf (0,[(.s (gS r7 0)),(.s (gS r9 0)),(.s (gS r10 0)),(.s (gS r0 0)),(.s (gS r13 0)),(.b (beq (seq (gS r13 0) [48]) (ieq x3 0))),(.i (gI r13 1))])) (.leaf (0,[(.s (gS r7 0)),(.s (gS r9 0)),(.s (gS r10 0)),(.s (gS r0 0)),(.s (gS r13 0)),(.b false),(.i (gI r13 1))]))) .fail) (.leaf (0,[(.s (gS r7 0)),(.s (gS r9 0)),(.s (gS r10 0)),(.s (gS r0 0)),(.s (gS r13 0)),(.b false),(.i (gI r13 1))])))) .fail) .fail) .fail) .fail) .fail) .fail) .fail) .fail) .fail) .fail) .fail) .fail)) .fail) .fail)) .fail) .fail):=by kernel_rfl
theorem qiV(x0:List UInt8):q35 [.s x0]=(let r0:TR:=(qz [(.s x0)])
 .br (okR r0) (.br (ine (gI r0 0) 0) (.leaf (0,[(.i 0),(.i (gI r0 0))])) (let r1:TR:=(j1 [(.s x0)])
 .br (okR r1) (.leaf (0,[(.i (gI r1 0)),(.i 0)])) .fail)) .fail):=by kernel_rfl
theorem qdp(x0:List UInt8)(x1:Int):qU [.s x0,.i x1]=(.br (ine x1 0) (.leaf (0,[(.i 0),(.i x1)])) (let r0:TR:=(q35 [(.s x0)])
 .br (okR r0) (.leaf (0,[(.i (gI r0 0)),(.i (gI r0 1))])) .fail)):=by kernel_rfl
theorem qcV(x0:List UInt8)(x1:List UInt8)(x2:List UInt8)(x3:Int):jb [.s x0,.s x1,.s x2,.i x3]=(let r0:TR:=(qU [(.s x0),(.i x3)])
 .br (okR r0) (let r1:TR:=(qU [(.s x1),(.i (gI r0 1))])
 .br (okR r1) (let r2:TR:=(qU [(.s x2),(.i (gI r1 1))])
 .br (okR r2) (.br (ile 0 (yW .i64 (gI r0 0) (yW .i64 (gI r1 0) (gI r2 0)))) (.br (ine (gI r0 0) 0) (.leaf (0,[(.i (gI r0 0)),(.i (gI r2 1))])) (.leaf (0,[(.i (yW .i64 (gI r1 0) (gI r2 0))),(.i (gI r2 1))]))) (let r3:TR:=(qg [(.r [[(.s x0)],[(.s x0)]]),(.i (gI r2 1))])
 .br (okR r3) (let r4:TR:=(qg [(.r [[(.s x1)],[(.s x1)],[(.s x2)]]),(.i (gI r3 1))])
 .br (okR r4) (let r5:TR:=(qT [(.s (gS r3 0)),(.s (gS r4 0)),(.i (gI r4 1))])
 .br (okR r5) (let r6:TR:=(qU [(.s (gS r5 0)),(.i (gI r5 1))])
 .br (okR r6) (.leaf (0,[(.i (yW .i64 (gI r0 0) (gI r6 0))),(.i (gI r6 1))])) .fail) .fail) .fail) .fail)) .fail) .fail) .fail):=by kernel_rfl
theorem qcB(x0:List UInt8)(x1:List UInt8)(x2:List UInt8)(x3:List UInt8)(x4:List UInt8):yA [.s x0,.s x1,.s x2,.s x3,.s x4]=(let r0:TR:=(qH [(.r [[(.s x0)],[(.s x1)],[(.s x2)],[(.s x3)],[(.s x4)]])])
 .br (okR r0) (.br (ine (gI r0 0) 0) (.leaf (0,[(.i 0),(.i (gI r0 0))])) (.br (inb 0 (zt x2)) (.br (ieq (sat x2 0) 45) (.leaf (0,[(.i 0),(.i 2)])) (.br (inb 0 (zt x4)) (.br (ieq (sat x4 0) 45) (.leaf (0,[(.i 0),(.i 2)])) (let r1:TR:=(qA [(.s x0)])
 .br (okR r1) (let r2:TR:=(qA [(.s x1)])
 .br (okR r2) (let r3:TR:=(qA [(.s x2)])
 .br (okR r3) (let r4:TR:=(qA [(.s x3)])
 .br (okR r4) (let r5:TR:=(qA [(.s x4)])
 .br (okR r5) (let r6:TR:=(qg [(.r [[(.s (gS r1 0))],[(.s (gS r2 1))],[(.s (gS r3 1))],[(.s (gS r4 1))],[(.s (gS r5 1))]]),(.i 0)])
 .br (okR r6) (let r7:TR:=(qg [(.r [[(.s (gS r2 0))],[(.s (gS r1 1))],[(.s (gS r4 1))],[(.s (gS r5 1))]]),(.i (gI r6 1))])
 .br (okR r7) (let r8:TR:=(qg [(.r [[(.s (gS r3 0))],[(.s (gS r3 1))]]),(.i (gI r7 1))])
 .br (okR r8) (let r9:TR:=(qg [(.r [[(.s (gS r4 0))],[(.s (gS r1 1))],[(.s (gS r2 1))],[(.s (gS r3 1))]]),(.i (gI r8 1))])
 .br (okR r9) (let r10:TR:=(qg [(.r [[(.s (gS r5 0))],[(.s (gS r5 1))]]),(.i (gI r9 1))])
 .br (okR r10) (let r11:TR:=(jb [(.s (gS r6 0)),(.s (gS r7 0)),(.s (gS r8 0)),(.i (gI r10 1))])
 .br (okR r11) (let r12:TR:=(qU [(.s (gS r9 0)),(.i (gI r11 1))])
 .br (okR r12) (let r13:TR:=(qU [(.s (gS r10 0)),(.i (gI r12 1))])
 .br (okR r13) (.br (ile 0 (yW .i64 (gI r11 0) (yW .i64 (gI r12 0) (gI r13 0)))) (.br (ieq (gI r11 0) 0) (.leaf (0,[(.i (yW .i64 (gI r12 0) (gI r13 0))),(.i (gI r13 1))])) (.leaf (0,[(.i (gI r11 0)),(.i (gI r13 1))]))) (let r14:TR:=(qg [(.r [[(.s (gS r6 0))],[(.s (gS r6 0))]]),(.i (gI r13 1))])
 .br (okR r14) (let r15:TR:=(qg [(.r [[(.s (gS r7 0))],[(.s (gS r7 0))],[(.s (gS r8 0))]]),(.i (gI r14 1))])
 .br (okR r15) (let r16:TR:=(vE [(.s (gS r14 0)),(.s (gS r15 0)),(.i (gI r15 1))])
 .br (okR r16) (let r17:TR:=(qg [(.r [[(.s (gS r9 0))],[(.s (gS r9 0))],[(.s (gS r10 0))]]),(.i (gI r16 1))])
 .br (okR r17) (let r18:TR:=(qT [(.s (gS r16 0)),(.s (gS r17 0)),(.i (gI r17 1))])
 .br (okR r18) (let r19:TR:=(qg [(.r [[(.s [50])],[(.s (gS r6 0))],[(.s (gS r7 0))]]),(.i (gI r18 1))])
 .br (okR r19) (let r20:TR:=(jb [(.s (gS r18 0)),(.s (gS r19 0)),(.s (gS r8 0)),(.i (gI r19 1))])
 .br (okR r20) (.br (ine (gI r20 1) 0) (.leaf (0,[(.i 0),(.i (gI r20 1))])) (.leaf (0,[(.i (yW .i64 (gI r11 0) (gI r20 0))),(.i 0)]))) .fail) .fail) .fail) .fail) .fail) .fail) .fail)) .fail) .fail) .fail) .fail) .fail) .fail) .fail) .fail) .fail) .fail) .fail) .fail) .fail)) .fail)) .fail)) .fail):=by kernel_rfl
theorem qeh(x0:List UInt8)(x1:List UInt8)(x2:List UInt8):uo [.s x0,.s x1,.s x2]=(let r0:TR:=(yA [(.s x0),(.s x1),(.s x2),(.s [48]),(.s [48])])
 .br (okR r0) (.leaf (0,[(.i (gI r0 0)),(.i (gI r0 1))])) .fail):=by kernel_rfl
theorem qdm(x0:List UInt8)(x1:List UInt8)(x2:List UInt8)(x3:Int):yS [.s x0,.s x1,.s x2,.i x3]=(.br (ine x3 0) (.leaf (0,[(.i 0),(.i x3)])) (let r0:TR:=(uo [(.s x0),(.s x1),(.s x2)])
 .br (okR r0) (.leaf (0,[(.i (gI r0 0)),(.i (gI r0 1))])) .fail)):=by kernel_rfl
theorem qbN(x0:List UInt8)(x1:List UInt8)(x2:List UInt8)(x3:List UInt8)(x4:List UInt8)(x5:List UInt8)(x6:List UInt8)(x7:List UInt8)(x8:Int):vz [.s x0,.s x1,.s x2,.s x3,.s x4,.s x5,.s x6,.s x7,.i x8]=(let r0:TR:=(wP [(.s x3),(.s x4),(.s x0),(.s x1),(.i x8)])
 .br (okR r0) (let r1:TR:=(zT [(.s (gS r0 0)),(.s (gS r0 1)),(.s (gS r0 0)),(.s (gS r0 1)),(.i (gI r0 2))])
 .br (okR r1) (let r2:TR:=(zT [(.s x5),(.s x6),(.s x5),(.s x6),(.i (gI r1 1))])
 .br (okR r2) (let r3:TR:=(qJ [(.s x7),(.s (gS r2 0)),(.i (gI r2 1))])
 .br (okR r3) (let r4:TR:=(z7 [(.s (gS r1 0)),(.s (gS r3 0)),(.i (gI r3 1))])
 .br (okR r4) (let r5:TR:=(qK [(.s (gS r4 0)),(.s x2),(.i (gI r4 1))])
 .br (okR r5) (let r6:TR:=(zT [(.s (gS r0 0)),(.s (gS r0 1)),(.s x5),(.s x6),(.i (gI r5 1))])
 .br (okR r6) (let r7:TR:=(qJ [(.s [50]),(.s (gS r6 0)),(.i (gI r6 1))])
 .br (okR r7) (let r8:TR:=(yS [(.s (gS r5 0)),(.s (gS r7 0)),(.s x7),(.i (gI r7 1))])
 .br (okR r8) (.leaf (0,[(.b (ile (gI r8 0) 0)),(.i (gI r8 1))])) .fail) .fail) .fail) .fail) .fail) .fail) .fail) .fail) .fail):=by kernel_rfl
theorem jp(y0:R)(y1:Int)(y2:Int)(y3:R)(y4:R)(y5:R)(y6:Int)(y7:Int)(y8:Int)(y9:Bool)(y10:List UInt8)(y11:List UInt8)(y12:List UInt8)(y13:List UInt8)(y14:List UInt8)(y15:Bool)(y16:R)(y17:Int)(y18:Int)(y19:Int)(y20:List UInt8)(y21:List UInt8)(y22:List UInt8)(y23:List UInt8)(y24:List UInt8)(y25:Bool)(y26:List UInt8)(y27:List UInt8)(y28:List UInt8)(y29:List UInt8)(y30:List UInt8)(y31:Bool)(y32:Bool)(y33:R)(y34:Int)(y35:Int)(y36:Int)(y37:Int)(y38:List UInt8)(y39:List UInt8)(y40:List UInt8)(y41:List UInt8)(y42:List UInt8):zF [.r y0,.i y1,.i y2,.r y3,.r y4,.r y5,.i y6,.i y7,.i y8,.b y9,.s y10,.s y11,.s y12,.s y13,.s y14,.b y15,.r y16,.i y17,.i y18,.i y19,.s y20,.s y21,.s y22,.s y23,.s y24,.b y25,.s y26,.s y27,.s y28,.s y29,.s y30,.b y31,.b y32,.r y33,.i y34,.i y35,.i y36,.i y37,.s y38,.s y39,.s y40,.s y41,.s y42]=(.br (ilt y2 y1) (.br (inb y2 (qh y0)) (let r0:TR:=(vz [(.s (cS y0 y2 0)),(.s (cS y0 y2 1)),(.s (cS y0 y2 2)),(.s y38),(.s y39),(.s y40),(.s y41),(.s y42),(.i y34)])
 .br (okR r0) (.br (not (gB r0 0)) (.leaf (2,[(.i y2),(.r y3),(.r y4),(.r y5),(.i y6),(.i y7),(.i y8),(.b y9),(.s y10),(.s y11),(.s y12),(.s y13),(.s y14),(.b y15),(.r y16),(.i y17),(.i y18),(.i y19),(.s y20),(.s y21),(.s y22),(.s y23),(.s y24),(.b y25),(.s y26),(.s y27),(.s y28),(.s y29),(.s y30),(.b y31),(.b y32),(.r y33),(.i (gI r0 1)),(.i y35),(.i y36),(.i y37),(.s y38),(.s y39),(.s y40),(.s y41),(.s y42)])) (.leaf (0,[(.r y0),(.i y1),(.i (ql .i64 y2 1)),(.r y3),(.r y4),(.r y5),(.i y6),(.i y7),(.i y8),(.b y9),(.s y10),(.s y11),(.s y12),(.s y13),(.s y14),(.b y15),(.r y16),(.i y17),(.i y18),(.i y19),(.s y20),(.s y21),(.s y22),(.s y23),(.s y24),(.b y25),(.s y26),(.s y27),(.s y28),(.s y29),(.s y30),(.b y31),(.b y32),(.r y33),(.i (gI r0 1)),(.i y35),(.i y36),(.i y37),(.s y38),(.s y39),(.s y40),(.s y41),(.s y42)]))) .fail) .fail) (.leaf (1,[(.r y3),(.r y4),(.r y5),(.i y6),(.i y7),(.i y8),(.b y9),(.s y10),(.s y11),(.s y12),(.s y13),(.s y14),(.b y15),(.r y16),(.i y17),(.i y18),(.i y19),(.s y20),(.s y21),(.s y22),(.s y23),(.s y24),(.b y25),(.s y26),(.s y27),(.s y28),(.s y29),(.s y30),(.b y31),(.b y32),(.r y33),(.i y34),(.i y35),(.i y36),(.i y37),(.s y38),(.s y39),(.s y40),(.s y41),(.s y42)]))):=by kernel_rfl
theorem qaO(x0:R)(x1:Int)(x2:Int)(x3:Int)(x4:Int):qO [.r x0,.i x1,.i x2,.i x3,.i x4]=(let r0:TR:=(wu [(.r x0),(.i x1),(.i x2),(.i x3),(.i x4)])
 .br (okR r0) (.br (gB r0 5) (let r1:TR:=(qw zF [(.r x0),(.i (qh x0)),(.i 0),(.r x0),(.r x0),(.r x0),(.i x1),(.i x2),(.i x3),(.b (gB r0 5)),(.s (gS r0 0)),(.s (gS r0 1)),(.s (gS r0 2)),(.s (gS r0 3)),(.s (gS r0 4)),(.b (gB r0 5)),(.r x0),(.i x1),(.i x2),(.i x3),(.s (gS r0 0)),(.s (gS r0 1)),(.s (gS r0 2)),(.s (gS r0 3)),(.s (gS r0 4)),(.b (gB r0 5)),(.s (gS r0 0)),(.s (gS r0 1)),(.s (gS r0 2)),(.s (gS r0 3)),(.s (gS r0 4)),(.b (gB r0 5)),(.b (gB r0 5)),(.r x0),(.i (gI r0 6)),(.i x1),(.i x2),(.i x3),(.s (gS r0 0)),(.s (gS r0 1)),(.s (gS r0 2)),(.s (gS r0 3)),(.s (gS r0 4))])
 .br (okR r1) (.br (jIs r1 0) (.leaf (0,[(.b (ieq (gI r1 31) 0)),(.i (gI r1 31))])) (.br (not (ile 0 (gI r1 0))) (.leaf (0,[(.b (ieq (gI r1 32) 0)),(.i (gI r1 32))])) (.leaf (0,[(.b false),(.i (gI r1 32))])))) .fail) (.leaf (0,[(.b false),(.i (gI r0 6))]))) .fail):=by kernel_rfl
theorem q0I(y0:Int)(y1:Int)(y2:Int)(y3:R)(y4:Int)(y5:Int)(y6:Int)(y7:Bool)(y8:Int):wc [.i y0,.i y1,.i y2,.r y3,.i y4,.i y5,.i y6,.b y7,.i y8]=(.br (ilt y1 y0) (let r0:TR:=(qO [(.r y3),(.i y1),(.i y1),(.i 0),(.i y2)])
 .br (okR r0) (.br (gB r0 0) (.leaf (2,[(.i (gI r0 1)),(.r y3),(.i y1),(.i y1),(.i 0),(.b true),(.i y8)])) (.leaf (0,[(.i y0),(.i (ql .i64 y1 1)),(.i (gI r0 1)),(.r y3),(.i y4),(.i y5),(.i y6),(.b y7),(.i y8)]))) .fail) (.leaf (1,[(.i y2),(.r y3),(.i y4),(.i y5),(.i y6),(.b y7),(.i y8)]))):=by kernel_rfl
theorem q0f(y0:Int)(y1:Int)(y2:Int)(y3:Int)(y4:Int)(y5:Int)(y6:Int)(y7:R)(y8:Int)(y9:Int)(y10:Int)(y11:Bool)(y12:Int)(y13:R):zS [.i y0,.i y1,.i y2,.i y3,.i y4,.i y5,.i y6,.r y7,.i y8,.i y9,.i y10,.b y11,.i y12,.r y13]=(.br (ilt y5 y4) (.br (inb y5 (qh y13)) (let r0:TR:=(qO [(.r y7),(.i y0),(.i y1),(.i (cI y13 y5 0)),(.i y6)])
 .br (okR r0) (.br (gB r0 0) (.leaf (2,[(.i (gI r0 1)),(.r y7),(.i y0),(.i y1),(.i (cI y13 y5 0)),(.b true),(.i y12)])) (.leaf (0,[(.i y0),(.i y1),(.i y2),(.i y3),(.i y4),(.i (ql .i64 y5 1)),(.i (gI r0 1)),(.r y7),(.i y8),(.i y9),(.i y10),(.b y11),(.i y12),(.r y13)]))) .fail) .fail) (.leaf (1,[(.i y0),(.i y1),(.i y2),(.i y3),(.i y6),(.r y7),(.i y8),(.i y9),(.i y10),(.b y11),(.i y12)]))):=by kernel_rfl
theorem q0a(y0:Int)(y1:Int)(y2:Int)(y3:Int)(y4:Int)(y5:R)(y6:Int)(y7:Int)(y8:Int)(y9:Bool)(y10:Int):zQ [.i y0,.i y1,.i y2,.i y3,.i y4,.r y5,.i y6,.i y7,.i y8,.b y9,.i y10]=(.br (ilt y1 y10) (let r0:TR:=(qw zS [(.i y0),(.i y1),(.i y2),(.i y3),(.i (qh [[(.i 0)],[(.i 1)],[(.i (-1))]])),(.i 0),(.i y4),(.r y5),(.i y6),(.i y7),(.i y8),(.b y9),(.i y10),(.r [[(.i 0)],[(.i 1)],[(.i (-1))]])])
 .br (okR r0) (.br (jIs r0 0) (.leaf (0,[(.i (gI r0 0)),(.i (ql .i64 (gI r0 1) 1)),(.i (gI r0 2)),(.i (gI r0 3)),(.i (gI r0 4)),(.r (gR r0 5)),(.i (gI r0 6)),(.i (gI r0 7)),(.i (gI r0 8)),(.b (gB r0 9)),(.i (gI r0 10))])) (.leaf (2,[(.i (gI r0 0)),(.r (gR r0 1)),(.i (gI r0 2)),(.i (gI r0 3)),(.i (gI r0 4)),(.b (gB r0 5)),(.i (gI r0 6))]))) .fail) (.leaf (1,[(.i y2),(.i y3),(.i y4),(.r y5),(.i y6),(.i y7),(.i y8),(.b y9),(.i y10)]))):=by kernel_rfl
theorem q0B(y0:Int)(y1:Int)(y2:Int)(y3:R)(y4:Int)(y5:Int)(y6:Int)(y7:Bool)(y8:Int):wh [.i y0,.i y1,.i y2,.r y3,.i y4,.i y5,.i y6,.b y7,.i y8]=(.br (ilt y1 y0) (let r0:TR:=(qw zQ [(.i y1),(.i (ql .i64 y1 1)),(.i y0),(.i y1),(.i y2),(.r y3),(.i y4),(.i y5),(.i y6),(.b y7),(.i y8)])
 .br (okR r0) (.br (jIs r0 0) (.leaf (0,[(.i (gI r0 0)),(.i (ql .i64 (gI r0 1) 1)),(.i (gI r0 2)),(.r (gR r0 3)),(.i (gI r0 4)),(.i (gI r0 5)),(.i (gI r0 6)),(.b (gB r0 7)),(.i (gI r0 8))])) (.leaf (2,[(.i (gI r0 0)),(.r (gR r0 1)),(.i (gI r0 2)),(.i (gI r0 3)),(.i (gI r0 4)),(.b (gB r0 5)),(.i (gI r0 6))]))) .fail) (.leaf (1,[(.i y2),(.r y3),(.i y4),(.i y5),(.i y6),(.b y7),(.i y8)]))):=by kernel_rfl
theorem qce(x0:R)(x1:Int):jE [.r x0,.i x1]=(let r0:TR:=(qw wc [(.i (qh x0)),(.i 0),(.i x1),(.r x0),(.i 0),(.i 0),(.i 0),(.b false),(.i (qh x0))])
 .br (okR r0) (.br (jIs r0 0) (let r1:TR:=(qw wh [(.i (gI r0 6)),(.i 0),(.i (gI r0 0)),(.r (gR r0 1)),(.i (gI r0 2)),(.i (gI r0 3)),(.i (gI r0 4)),(.b (gB r0 5)),(.i (gI r0 6))])
 .br (okR r1) (.br (jIs r1 0) (.leaf (0,[(.i 0),(.i 0),(.i 0),(.b false),(.i (gI r1 0))])) (.leaf (0,[(.i (gI r1 2)),(.i (gI r1 3)),(.i (gI r1 4)),(.b (gB r1 5)),(.i (gI r1 0))]))) .fail) (.leaf (0,[(.i (gI r0 2)),(.i (gI r0 3)),(.i (gI r0 4)),(.b (gB r0 5)),(.i (gI r0 0))]))) .fail):=by kernel_rfl
theorem qgo(x0:R):q0D [.r x0]=(let r0:TR:=(q1j [(.r x0)])
 .br (okR r0) (.br (ine (gI r0 0) 0) (.leaf (0,[(.b false),(.i 0),(.i 0),(.i 0),(.i (gI r0 0))])) (let r1:TR:=(jE [(.r x0),(.i 0)])
 .br (okR r1) (.br (ine (gI r1 4) 0) (.leaf (0,[(.b false),(.i 0),(.i 0),(.i 0),(.i (gI r1 4))])) (.leaf (0,[(.b (gB r1 3)),(.i (gI r1 0)),(.i (gI r1 1)),(.i (gI r1 2)),(.i 0)]))) .fail)) .fail):=by kernel_rfl
theorem qmz(x0:Int):jc [.i x0]=(.br (ile (-100000) x0) (.leaf (0,[(.b (ile x0 100000))])) (.leaf (0,[(.b false)]))):=by kernel_rfl
theorem qiU(x0:Int):vn [.i x0]=(.br (ile 1 x0) (.leaf (0,[(.b (ile x0 100000))])) (.leaf (0,[(.b false)]))):=by kernel_rfl
theorem qhU(x0:Int)(x1:Int)(x2:Int)(x3:Int)(x4:Int)(x5:Int)(x6:Bool):wX [.i x0,.i x1,.i x2,.i x3,.i x4,.i x5,.b x6]=(.br (okR (jc [(.i x0)])) (.br (not (gB (jc [(.i x0)]) 0)) (.leaf (0,[(.i 2)])) (.br (okR (jc [(.i x1)])) (.br (not (gB (jc [(.i x1)]) 0)) (.leaf (0,[(.i 2)])) (.br (okR (vn [(.i x2)])) (.br (not (gB (vn [(.i x2)]) 0)) (.leaf (0,[(.i 2)])) (.br (okR (vn [(.i x3)])) (.br (not (gB (vn [(.i x3)]) 0)) (.leaf (0,[(.i 2)])) (.br (ilt x3 x2) (.leaf (0,[(.i 9)])) (.br (ilt x4 0) (.leaf (0,[(.i 2)])) (.br (ilt 100000 x4) (.leaf (0,[(.i 2)])) (.br (not x6) (.br (ile x2 x4) (.leaf (0,[(.i 2)])) (.br (ilt x5 0) (.leaf (0,[(.i 1)])) (.br (ile 3 x5) (.leaf (0,[(.i 1)])) (.leaf (0,[(.i 0)]))))) (.br (ilt x5 0) (.leaf (0,[(.i 1)])) (.br (ile 3 x5) (.leaf (0,[(.i 1)])) (.leaf (0,[(.i 0)]))))))))) .fail)) .fail)) .fail)) .fail):=by kernel_rfl
theorem q65(y0:Int)(y1:Int)(y2:Int)(y3:Int)(y4:Int)(y5:Int)(y6:Int)(y7:Int)(y8:Bool)(y9:Int)(y10:Int)(y11:Int)(y12:Int)(y13:Int)(y14:Int)(y15:Bool)(y16:R):j7 [.i y0,.i y1,.i y2,.i y3,.i y4,.i y5,.i y6,.i y7,.b y8,.i y9,.i y10,.i y11,.i y12,.i y13,.i y14,.b y15,.r y16]=(.br (ilt y1 y0) (.br (inb y1 (qh y16)) (let r0:TR:=(wX [(.i (cI y16 y1 0)),(.i (cI y16 y1 1)),(.i (cI y16 y1 2)),(.i (cI y16 y1 3)),(.i (cI y16 y1 4)),(.i (cI y16 y1 5)),(.b (cB y16 y1 6))])
 .br (okR r0) (.br (ine (gI r0 0) 0) (.leaf (2,[(.i (gI r0 0))])) (.leaf (0,[(.i y0),(.i (ql .i64 y1 1)),(.i y2),(.i y3),(.i y4),(.i y5),(.i y6),(.i y7),(.b y8),(.i y9),(.i y10),(.i y11),(.i y12),(.i y13),(.i y14),(.b y15),(.r y16)]))) .fail) .fail) (.leaf (1,[(.i y2),(.i y3),(.i y4),(.i y5),(.i y6),(.i y7),(.b y8),(.i y9),(.i y10),(.i y11),(.i y12),(.i y13),(.i y14),(.b y15)]))):=by kernel_rfl
theorem qfg(x0:Int)(x1:Int)(x2:Int)(x3:Int)(x4:Int)(x5:Int)(x6:Bool)(x7:Int)(x8:Int)(x9:Int)(x10:Int)(x11:Int)(x12:Int)(x13:Bool):yM [.i x0,.i x1,.i x2,.i x3,.i x4,.i x5,.b x6,.i x7,.i x8,.i x9,.i x10,.i x11,.i x12,.b x13]=(let r0:TR:=(qw j7 [(.i (qh [[(.i x0),(.i x1),(.i x2),(.i x3),(.i x4),(.i x5),(.b x6)],[(.i x7),(.i x8),(.i x9),(.i x10),(.i x11),(.i x12),(.b x13)]])),(.i 0),(.i x0),(.i x1),(.i x2),(.i x3),(.i x4),(.i x5),(.b x6),(.i x7),(.i x8),(.i x9),(.i x10),(.i x11),(.i x12),(.b x13),(.r [[(.i x0),(.i x1),(.i x2),(.i x3),(.i x4),(.i x5),(.b x6)],[(.i x7),(.i x8),(.i x9),(.i x10),(.i x11),(.i x12),(.b x13)]])])
 .br (okR r0) (.br (jIs r0 0) (.br (ine (gI r0 5) 1) (.leaf (0,[(.i 14)])) (.br (ine (gI r0 12) 1) (.leaf (0,[(.i 14)])) (.br (not (qrY (ieq (gI r0 0) (gI r0 7)) (qrY (ieq (gI r0 1) (gI r0 8)) true))) (.leaf (0,[(.i 16)])) (.br (beq (gB r0 6) (gB r0 13)) (.leaf (0,[(.i 16)])) (.leaf (0,[(.i 0)])))))) (.leaf (0,[(.i (gI r0 0))]))) .fail):=by kernel_rfl
theorem q3K(y0:Int)(y1:Int)(y2:R)(y3:R):jg [.i y0,.i y1,.r y2,.r y3]=(.br (ilt y1 y0) (.br (inb y1 (qh y2)) (.br (inb y1 (qh y3)) (let r0:TR:=(yM [(.i (cI y2 y1 0)),(.i (cI y2 y1 1)),(.i (cI y2 y1 2)),(.i (cI y2 y1 3)),(.i (cI y2 y1 4)),(.i (cI y2 y1 5)),(.b (cB y2 y1 6)),(.i (cI y3 y1 0)),(.i (cI y3 y1 1)),(.i (cI y3 y1 2)),(.i (cI y3 y1 3)),(.i (cI y3 y1 4)),(.i (cI y3 y1 5)),(.b (cB y3 y1 6))])
 .br (okR r0) (.br (ine (gI r0 0) 0) (.leaf (2,[(.i (gI r0 0))])) (.leaf (0,[(.i y0),(.i (ql .i64 y1 1)),(.r y2),(.r y3)]))) .fail) .fail) .fail) (.leaf (1,[]))):=by kernel_rfl
theorem qec(x0:R)(x1:R):zU [.r x0,.r x1]=(.br (ieq (qh x0) 0) (.leaf (0,[(.i 13)])) (.br (ilt 16 (qh x0)) (.leaf (0,[(.i 5)])) (.br (ine (qh x0) (qh x1)) (.leaf (0,[(.i 8)])) (let r0:TR:=(qw jg [(.i (qh x0)),(.i 0),(.r x0),(.r x1)])
 .br (okR r0) (.br (jIs r0 0) (.leaf (0,[(.i 0)])) (.leaf (0,[(.i (gI r0 0))]))) .fail)))):=by kernel_rfl
theorem qjt(x0:Int)(x1:Int)(x2:Int):q31 [.i x0,.i x1,.i x2]=(.br (okR (jc [(.i x0)])) (.br (not (gB (jc [(.i x0)]) 0)) (.leaf (0,[(.i 2)])) (.br (okR (jc [(.i x1)])) (.br (not (gB (jc [(.i x1)]) 0)) (.leaf (0,[(.i 2)])) (.br (okR (vn [(.i x2)])) (.br (not (gB (vn [(.i x2)]) 0)) (.leaf (0,[(.i 2)])) (.leaf (0,[(.i 0)]))) .fail)) .fail)) .fail):=by kernel_rfl
theorem qjw(x0:Int)(x1:Int)(x2:Int)(x3:Int)(x4:Int)(x5:Int)(x6:Bool)(x7:Int)(x8:Int)(x9:Int):q33 [.i x0,.i x1,.i x2,.i x3,.i x4,.i x5,.b x6,.i x7,.i x8,.i x9]=(let r0:TR:=(wX [(.i x0),(.i x1),(.i x2),(.i x3),(.i x4),(.i x5),(.b x6)])
 .br (okR r0) (.br (ine (gI r0 0) 0) (.leaf (0,[(.i (gI r0 0))])) (let r1:TR:=(q31 [(.i x7),(.i x8),(.i x9)])
 .br (okR r1) (.leaf (0,[(.i (gI r1 0))])) .fail)) .fail):=by kernel_rfl
theorem qlC(x0:Int)(x1:Int)(x2:Int)(x3:Int)(x4:Int)(x5:Int)(x6:Bool)(x7:Int)(x8:Int)(x9:Int):q81 [.i x0,.i x1,.i x2,.i x3,.i x4,.i x5,.b x6,.i x7,.i x8,.i x9]=(.leaf (0,[(.i (qE .i64 x7 x0)),(.i (qE .i64 x8 x1))])):=by kernel_rfl
theorem qe5(x0:Int)(x1:Int)(x2:Int)(x3:Int)(x4:Int)(x5:Int)(x6:Bool)(x7:Int)(x8:Int)(x9:Int):wE [.i x0,.i x1,.i x2,.i x3,.i x4,.i x5,.b x6,.i x7,.i x8,.i x9]=(let r0:TR:=(q33 [(.i x0),(.i x1),(.i x2),(.i x3),(.i x4),(.i x5),(.b x6),(.i x7),(.i x8),(.i x9)])
 .br (okR r0) (.br (ine (gI r0 0) 0) (.leaf (0,[(.i 0),(.i (gI r0 0))])) (let r1:TR:=(q81 [(.i x0),(.i x1),(.i x2),(.i x3),(.i x4),(.i x5),(.b x6),(.i x7),(.i x8),(.i x9)])
 .br (okR r1) (.leaf (0,[(.i (ql .i64 (yW .i64 (gI r1 0) (gI r1 0)) (yW .i64 (gI r1 1) (gI r1 1)))),(.i 0)])) .fail)) .fail):=by kernel_rfl
theorem qdd(x0:Int)(x1:Int)(x2:Int)(x3:Int)(x4:Int)(x5:Int)(x6:Bool)(x7:Int)(x8:Int)(x9:Int):wO [.i x0,.i x1,.i x2,.i x3,.i x4,.i x5,.b x6,.i x7,.i x8,.i x9]=(.br (ile x2 x9) (.leaf (0,[(.b (ile x9 x3))])) (.leaf (0,[(.b false)]))):=by kernel_rfl
theorem q3d(y0:Int)(y1:Int)(y2:R)(y3:R)(y4:R)(y5:R):vH [.i y0,.i y1,.r y2,.r y3,.r y4,.r y5]=(.br (ilt y1 y0) (.br (inb y1 (qh y2)) (.br (inb y1 (qh y4)) (let r0:TR:=(wE [(.i (cI y2 y1 0)),(.i (cI y2 y1 1)),(.i (cI y2 y1 2)),(.i (cI y2 y1 3)),(.i (cI y2 y1 4)),(.i (cI y2 y1 5)),(.b (cB y2 y1 6)),(.i (cI y4 y1 0)),(.i (cI y4 y1 1)),(.i (cI y4 y1 2))])
 .br (okR r0) (.br (ine (gI r0 1) 0) (.leaf (2,[(.i (gI r0 1))])) (.br (inb y1 (qh y3)) (.br (inb y1 (qh y5)) (let r1:TR:=(wE [(.i (cI y3 y1 0)),(.i (cI y3 y1 1)),(.i (cI y3 y1 2)),(.i (cI y3 y1 3)),(.i (cI y3 y1 4)),(.i (cI y3 y1 5)),(.b (cB y3 y1 6)),(.i (cI y5 y1 0)),(.i (cI y5 y1 1)),(.i (cI y5 y1 2))])
 .br (okR r1) (.br (ine (gI r1 1) 0) (.leaf (2,[(.i (gI r1 1))])) (.br (inb y1 (qh y2)) (.br (inb y1 (qh y4)) (let r2:TR:=(wO [(.i (cI y2 y1 0)),(.i (cI y2 y1 1)),(.i (cI y2 y1 2)),(.i (cI y2 y1 3)),(.i (cI y2 y1 4)),(.i (cI y2 y1 5)),(.b (cB y2 y1 6)),(.i (cI y4 y1 0)),(.i (cI y4 y1 1)),(.i (cI y4 y1 2))])
 .br (okR r2) (.br (not (gB r2 0)) (.leaf (2,[(.i 14)])) (.br (inb y1 (qh y3)) (.br (inb y1 (qh y5)) (let r3:TR:=(wO [(.i (cI y3 y1 0)),(.i (cI y3 y1 1)),(.i (cI y3 y1 2)),(.i (cI y3 y1 3)),(.i (cI y3 y1 4)),(.i (cI y3 y1 5)),(.b (cB y3 y1 6)),(.i (cI y5 y1 0)),(.i (cI y5 y1 1)),(.i (cI y5 y1 2))])
 .br (okR r3) (.br (not (gB r3 0)) (.leaf (2,[(.i 14)])) (.leaf (0,[(.i y0),(.i (ql .i64 y1 1)),(.r y2),(.r y3),(.r y4),(.r y5)]))) .fail) .fail) .fail)) .fail) .fail) .fail)) .fail) .fail) .fail)) .fail) .fail) .fail) (.leaf (1,[]))):=by kernel_rfl
theorem qdw(x0:R)(x1:R)(x2:R)(x3:R):yF [.r x0,.r x1,.r x2,.r x3]=(let r0:TR:=(zU [(.r x0),(.r x1)])
 .br (okR r0) (.br (ine (gI r0 0) 0) (.leaf (0,[(.i (gI r0 0))])) (.br (ine (qh x2) (qh x0)) (.leaf (0,[(.i 8)])) (.br (ine (qh x3) (qh x1)) (.leaf (0,[(.i 8)])) (let r1:TR:=(qw vH [(.i (qh x0)),(.i 0),(.r x0),(.r x1),(.r x2),(.r x3)])
 .br (okR r1) (.br (jIs r1 0) (.leaf (0,[(.i 0)])) (.leaf (0,[(.i (gI r1 0))]))) .fail)))) .fail):=by kernel_rfl
theorem qaT(x0:Int)(x1:Int):w9 [.i x0,.i x1]=(.leaf (0,[(.b (ilt x1 0))])):=by kernel_rfl
theorem q0c(y0:R)(y1:Int)(y2:Int)(y3:R):zb [.r y0,.i y1,.i y2,.r y3]=(.br (ilt y2 y1) (.br (inb y2 (qh y0)) (let r0:TR:=(w9 [(.i y2),(.i (cI y0 y2 0))])
 .br (okR r0) (.br (gB r0 0) (.br (ile ((qh y3)+(qh [[(.i y2)]])) 17592186044416) (.leaf (0,[(.r y0),(.i y1),(.i (ql .i64 y2 1)),(.r (q2g y3 [[(.i y2)]]))])) .fail) (.leaf (0,[(.r y0),(.i y1),(.i (ql .i64 y2 1)),(.r y3)]))) .fail) .fail) (.leaf (1,[(.r y3)]))):=by kernel_rfl
theorem q7j(x0:R):qM [.r x0]=(let r0:TR:=(qw zb [(.r x0),(.i (qh x0)),(.i 0),(.r [])])
 .br (okR r0) (.leaf (0,[(.r (gR r0 0))])) .fail):=by kernel_rfl
theorem q4P(y0:R)(y1:Int)(y2:Int)(y3:R)(y4:R)(y5:R):vw [.r y0,.i y1,.i y2,.r y3,.r y4,.r y5]=(.br (ilt y2 y1) (.br (inb y2 (qh y0)) (.br (inb y2 (qh y3)) (.br (inb y2 (qh y4)) (.br (cB y0 y2 6) (.br (ile ((qh y5)+(qh [[(.i (qE .i64 0 (qE .i64 (cI y3 y2 2) (cI y4 y2 2))))]])) 17592186044416) (.leaf (0,[(.r y0),(.i y1),(.i (ql .i64 y2 1)),(.r y3),(.r y4),(.r (q2g y5 [[(.i (qE .i64 0 (qE .i64 (cI y3 y2 2) (cI y4 y2 2))))]]))])) .fail) (.br (ile ((qh y5)+(qh [[(.i (qE .i64 (cI y3 y2 2) (cI y4 y2 2)))]])) 17592186044416) (.leaf (0,[(.r y0),(.i y1),(.i (ql .i64 y2 1)),(.r y3),(.r y4),(.r (q2g y5 [[(.i (qE .i64 (cI y3 y2 2) (cI y4 y2 2)))]]))])) .fail)) .fail) .fail) .fail) (.leaf (1,[(.r y5)]))):=by kernel_rfl
theorem qek(x0:R)(x1:R)(x2:R)(x3:R):wF [.r x0,.r x1,.r x2,.r x3]=(let r0:TR:=(qw vw [(.r x0),(.i (qh x0)),(.i 0),(.r x2),(.r x3),(.r [])])
 .br (okR r0) (.leaf (0,[(.r (gR r0 0))])) .fail):=by kernel_rfl
theorem q9Y(y0:List UInt8)(y1:List UInt8)(y2:Int)(y3:Int)(y4:R):uK [.s y0,.s y1,.i y2,.i y3,.r y4]=(.br (ilt y3 y2) (.br (inb y3 (qh y4)) (let r0:TR:=(qz [(.s (cS y4 y3 0))])
 .br (okR r0) (.br (ine (gI r0 0) 0) (.leaf (2,[(.s []),(.i (gI r0 0))])) (.leaf (0,[(.s y0),(.s y1),(.i y2),(.i (ql .i64 y3 1)),(.r y4)]))) .fail) .fail) (.leaf (1,[(.s y0),(.s y1)]))):=by kernel_rfl
theorem qk8(x0:List UInt8)(x1:List UInt8):q39 [.s x0,.s x1]=(let r0:TR:=(qw uK [(.s x0),(.s x1),(.i (qh [[(.s x0)],[(.s x1)]])),(.i 0),(.r [[(.s x0)],[(.s x1)]])])
 .br (okR r0) (.br (jIs r0 0) (.br (seq (gS r0 1) [48]) (.leaf (0,[(.s []),(.i 10)])) (let r1:TR:=(qp [(.s (gS r0 0)),(.s (gS r0 1)),(.i 0)])
 .br (okR r1) (.br (ine (gI r1 1) 0) (.leaf (0,[(.s []),(.i (gI r1 1))])) (.leaf (0,[(.s (gS r1 0)),(.i 0)]))) .fail)) (.leaf (0,[(.s (gS r0 0)),(.i (gI r0 1))]))) .fail):=by kernel_rfl
theorem qmc(x0:Int)(x1:Int):q4I [.i x0,.i x1]=(let r0:TR:=(qV [(.i x0)])
 .br (okR r0) (let r1:TR:=(qV [(.i x1)])
 .br (okR r1) (let r2:TR:=(q39 [(.s (gS r0 0)),(.s (gS r1 0))])
 .br (okR r2) (.leaf (0,[(.s (gS r2 0)),(.i (gI r2 1))])) .fail) .fail) .fail):=by kernel_rfl
theorem qhE(x0:Int):uc [.i x0]=(.br (okR (qV [(.i x0)])) (.leaf (0,[(.s (gS (qV [(.i x0)]) 0))])) .fail):=by kernel_rfl
theorem q5u(y0:R)(y1:Int)(y2:Int)(y3:R)(y4:R)(y5:R):vu [.r y0,.i y1,.i y2,.r y3,.r y4,.r y5]=(.br (ilt y2 y1) (.br (inb y2 (qh y0)) (.br (inb y2 (qh y3)) (.br (inb y2 (qh y4)) (let r0:TR:=(q4I [(.i (cI y0 y2 0)),(.i 2)])
 .br (okR r0) (let r1:TR:=(ul [(.s (gS r0 0)),(.s (gS r0 0))])
 .br (okR r1) (let r2:TR:=(uc [(.i (qE .i64 (cI y4 y2 0) (cI y3 y2 0)))])
 .br (okR r2) (let r3:TR:=(uc [(.i (qE .i64 (cI y4 y2 1) (cI y3 y2 1)))])
 .br (okR r3) (.br (ile ((qh y5)+(qh [[(.s (gS r2 0)),(.s (gS r3 0)),(.s (gS r1 0))]])) 2932031007402) (.leaf (0,[(.r y0),(.i y1),(.i (ql .i64 y2 1)),(.r y3),(.r y4),(.r (q2g y5 [[(.s (gS r2 0)),(.s (gS r3 0)),(.s (gS r1 0))]]))])) .fail) .fail) .fail) .fail) .fail) .fail) .fail) .fail) (.leaf (1,[(.r y5)]))):=by kernel_rfl
theorem qdZ(x0:R)(x1:R)(x2:R)(x3:R):um [.r x0,.r x1,.r x2,.r x3]=(let r0:TR:=(wF [(.r x0),(.r x1),(.r x2),(.r x3)])
 .br (okR r0) (let r1:TR:=(qw vu [(.r (gR r0 0)),(.i (qh (gR r0 0))),(.i 0),(.r x2),(.r x3),(.r [])])
 .br (okR r1) (.leaf (0,[(.r (gR r1 0))])) .fail) .fail):=by kernel_rfl
theorem qaH(x0:R)(x1:R)(x2:R)(x3:R):qY [.r x0,.r x1,.r x2,.r x3]=(let r0:TR:=(yF [(.r x0),(.r x1),(.r x2),(.r x3)])
 .br (okR r0) (.br (ine (gI r0 0) 0) (.leaf (0,[(.b false),(.i 0),(.i 0),(.i 0),(.i (gI r0 0))])) (let r1:TR:=(wF [(.r x0),(.r x1),(.r x2),(.r x3)])
 .br (okR r1) (let r2:TR:=(qM [(.r (gR r1 0))])
 .br (okR r2) (.br (ilt 0 (qh (gR r2 0))) (.leaf (0,[(.b false),(.i 0),(.i 0),(.i 0),(.i 0)])) (let r3:TR:=(um [(.r x0),(.r x1),(.r x2),(.r x3)])
 .br (okR r3) (let r4:TR:=(q0D [(.r (gR r3 0))])
 .br (okR r4) (.br (ine (gI r4 4) 0) (.leaf (0,[(.b false),(.i 0),(.i 0),(.i 0),(.i (gI r4 4))])) (.br (not (gB r4 0)) (.leaf (0,[(.b false),(.i 0),(.i 0),(.i 0),(.i (gI r4 4))])) (.leaf (0,[(.b true),(.i (gI r4 1)),(.i (gI r4 2)),(.i (gI r4 3)),(.i 0)])))) .fail) .fail)) .fail) .fail)) .fail):=by kernel_rfl
theorem qm9(x0:Int)(x1:Int)(x2:Int)(x3:Int)(x4:Int)(x5:Int)(x6:Bool):q7p [.i x0,.i x1,.i x2,.i x3,.i x4,.i x5,.b x6]=(.br x6 (.br (ieq x5 2) (.leaf (0,[(.i x0),(.i x1),(.i x2),(.i x3),(.i x4),(.i x5),(.b x6),(.i (cI [[(.i (-1)),(.i (-1)),(.i 1),(.i 1),(.i 1),(.i (-1))]] 0 5))])) (.br (ieq x5 1) (.leaf (0,[(.i x0),(.i x1),(.i x2),(.i x3),(.i x4),(.i x5),(.b x6),(.i (cI [[(.i (-1)),(.i (-1)),(.i 1),(.i 1),(.i 1),(.i (-1))]] 0 4))])) (.br (ieq x5 0) (.leaf (0,[(.i x0),(.i x1),(.i x2),(.i x3),(.i x4),(.i x5),(.b x6),(.i (cI [[(.i (-1)),(.i (-1)),(.i 1),(.i 1),(.i 1),(.i (-1))]] 0 3))])) .fail))) (.br (ieq x5 2) (.leaf (0,[(.i x0),(.i x1),(.i x2),(.i x3),(.i x4),(.i x5),(.b x6),(.i (cI [[(.i (-1)),(.i (-1)),(.i 1),(.i 1),(.i 1),(.i (-1))]] 0 2))])) (.br (ieq x5 1) (.leaf (0,[(.i x0),(.i x1),(.i x2),(.i x3),(.i x4),(.i x5),(.b x6),(.i (cI [[(.i (-1)),(.i (-1)),(.i 1),(.i 1),(.i 1),(.i (-1))]] 0 1))])) (.br (ieq x5 0) (.leaf (0,[(.i x0),(.i x1),(.i x2),(.i x3),(.i x4),(.i x5),(.b x6),(.i (cI [[(.i (-1)),(.i (-1)),(.i 1),(.i 1),(.i 1),(.i (-1))]] 0 0))])) .fail)))):=by kernel_rfl
theorem q8Z(x0:Int)(x1:Int)(x2:Int)(x3:Int)(x4:Int)(x5:Int)(x6:Bool)(x7:Int)(x8:Int):vh [.i x0,.i x1,.i x2,.i x3,.i x4,.i x5,.b x6,.i x7,.i x8]=(.br (ilt x8 0) (.leaf (0,[(.i x2)])) (.leaf (0,[(.i x3)]))):=by kernel_rfl
theorem qf7(x0:Int)(x1:Int)(x2:Int)(x3:Int)(x4:Int)(x5:Int)(x6:Bool):vk [.i x0,.i x1,.i x2,.i x3,.i x4,.i x5,.b x6]=(let r0:TR:=(wX [(.i x0),(.i x1),(.i x2),(.i x3),(.i x4),(.i x5),(.b x6)])
 .br (okR r0) (.br (ine (gI r0 0) 0) (.leaf (0,[(.i 0),(.i (gI r0 0))])) (let r1:TR:=(q7p [(.i x0),(.i x1),(.i x2),(.i x3),(.i x4),(.i x5),(.b x6)])
 .br (okR r1) (let r2:TR:=(vh [(.i (gI r1 0)),(.i (gI r1 1)),(.i (gI r1 2)),(.i (gI r1 3)),(.i (gI r1 4)),(.i (gI r1 5)),(.b (gB r1 6)),(.i (gI r1 7)),(.i (gI r1 7))])
 .br (okR r2) (.leaf (0,[(.i (ql .i64 (gI r2 0) (yW .i64 (gI r1 7) (gI r1 4)))),(.i 0)])) .fail) .fail)) .fail):=by kernel_rfl
theorem q3e(y0:R)(y1:Int)(y2:Int)(y3:R)(y4:R)(y5:R):wA [.r y0,.i y1,.i y2,.r y3,.r y4,.r y5]=(.br (ilt y2 y1) (.br (inb y2 (qh y0)) (let r0:TR:=(vk [(.i (cI y0 y2 0)),(.i (cI y0 y2 1)),(.i (cI y0 y2 2)),(.i (cI y0 y2 3)),(.i (cI y0 y2 4)),(.i (cI y0 y2 5)),(.b (cB y0 y2 6))])
 .br (okR r0) (.br (inb y2 (qh y4)) (let r1:TR:=(vk [(.i (cI y4 y2 0)),(.i (cI y4 y2 1)),(.i (cI y4 y2 2)),(.i (cI y4 y2 3)),(.i (cI y4 y2 4)),(.i (cI y4 y2 5)),(.b (cB y4 y2 6))])
 .br (okR r1) (.br (ine (ql .i64 (gI r0 1) (gI r1 1)) 0) (.leaf (2,[(.i (qdt (gI r0 1) (gI r1 1)))])) (.br (cB y0 y2 6) (.br (ile ((qh y5)+(qh [[(.i (qE .i64 (gI r1 0) (gI r0 0)))]])) 17592186044416) (.leaf (0,[(.r y0),(.i y1),(.i (ql .i64 y2 1)),(.r y3),(.r y4),(.r (q2g y5 [[(.i (qE .i64 (gI r1 0) (gI r0 0)))]]))])) .fail) (.br (ile ((qh y5)+(qh [[(.i (qE .i64 (gI r0 0) (gI r1 0)))]])) 17592186044416) (.leaf (0,[(.r y0),(.i y1),(.i (ql .i64 y2 1)),(.r y3),(.r y4),(.r (q2g y5 [[(.i (qE .i64 (gI r0 0) (gI r1 0)))]]))])) .fail))) .fail) .fail) .fail) .fail) (.leaf (1,[(.r y5)]))):=by kernel_rfl
theorem qbt(x0:R)(x1:R):jx [.r x0,.r x1]=(let r0:TR:=(zU [(.r x0),(.r x1)])
 .br (okR r0) (.br (ine (gI r0 0) 0) (.leaf (0,[(.r []),(.i (gI r0 0))])) (let r1:TR:=(qw wA [(.r x0),(.i (qh x0)),(.i 0),(.r x0),(.r x1),(.r [])])
 .br (okR r1) (.br (jIs r1 0) (.leaf (0,[(.r (gR r1 0)),(.i 0)])) (.leaf (0,[(.r []),(.i (gI r1 0))]))) .fail)) .fail):=by kernel_rfl
theorem qfa(x0:R)(x1:R):vl [.r x0,.r x1]=(let r0:TR:=(jx [(.r x0),(.r x1)])
 .br (okR r0) (.br (ieq (gI r0 1) 0) (let r1:TR:=(qM [(.r (gR r0 0))])
 .br (okR r1) (.leaf (0,[(.b (ieq (qh (gR r1 0)) 0)),(.i (gI r0 1))])) .fail) (.leaf (0,[(.b false),(.i (gI r0 1))]))) .fail):=by kernel_rfl
theorem qb4(y0:Int)(y1:Int)(y2:R)(y3:R)(y4:R):kW [.i y0,.i y1,.r y2,.r y3,.r y4]=(.br (ilt y1 y0) (.br (inb y1 (qh y2)) (.br (ile ((qh y3)+(qh [[(.i (cI y2 y1 0)),(.i 0),(.i 100),(.i 104),(.i 4),(.i 1),(.b false)]])) 2513169434916) (.br (ile ((qh y4)+(qh [[(.i (cI y2 y1 0)),(.i 0),(.i 90),(.i 92),(.i 4),(.i 1),(.b true)]])) 2513169434916) (.leaf (0,[(.i y0),(.i (ql .i64 y1 1)),(.r y2),(.r (q2g y3 [[(.i (cI y2 y1 0)),(.i 0),(.i 100),(.i 104),(.i 4),(.i 1),(.b false)]])),(.r (q2g y4 [[(.i (cI y2 y1 0)),(.i 0),(.i 90),(.i 92),(.i 4),(.i 1),(.b true)]]))])) .fail) .fail) .fail) (.leaf (1,[(.r y3),(.r y4)]))):=by kernel_rfl
theorem qlx  : q5p []=(let r0:TR:=(qw kW [(.i (qh [[(.i 0)],[(.i 1000)]])),(.i 0),(.r [[(.i 0)],[(.i 1000)]]),(.r []),(.r [])])
 .br (okR r0) (.leaf (0,[(.r (gR r0 0)),(.r (gR r0 1))])) .fail):=by kernel_rfl
theorem qdS(x0:Int):uD [.i x0]=(.leaf (0,[(.r [[(.i 2),(.i 0),(.i 100)],[(.i 998),(.i 0),(.i 100)]]),(.r [[(.i (qE .i64 0 x0)),(.i 0),(.i 92)],[(.i (ql .i64 1000 x0)),(.i 0),(.i 92)]])])):=by kernel_rfl
theorem qf8  : zr []=(let r0:TR:=(q5p [])
 .br (okR r0) (let r1:TR:=(vl [(.r (gR r0 0)),(.r (gR r0 1))])
 .br (okR r1) (.br (okR r0) (let r2:TR:=(uD [(.i 2)])
 .br (okR r2) (let r3:TR:=(qY [(.r (gR r0 0)),(.r (gR r0 1)),(.r (gR r2 0)),(.r (gR r2 1))])
 .br (okR r3) (.br (ieq (ql .i64 (gI r1 1) (gI r3 4)) 0) (.br (gB r1 0) (.leaf (0,[(.b (gB r3 0))])) (.leaf (0,[(.b false)]))) (.leaf (0,[(.b false)]))) .fail) .fail) .fail) .fail) .fail):=by kernel_rfl
theorem q0r(x0:R):qv [.r x0]=(.br (ilt 0 (qh x0)) (.br (ile ((qh [])+(qh x0)) 2513169434916) (.leaf (0,[(.r (q2g [] x0))])) .fail) .fail):=by kernel_rfl
theorem q0g(x0:R):qu [.r x0]=(.br (ilt 0 (qh x0)) (.br (ile ((qh [])+(qh x0)) 5864062014805) (.leaf (0,[(.r (q2g [] x0))])) .fail) .fail):=by kernel_rfl
theorem qaK(x0:R)(x1:R)(x2:R)(x3:R)(x4:Int):jf [.r x0,.r x1,.r x2,.r x3,.i x4]=(let r0:TR:=(q5y [(.r x0),(.r x1),(.r x2),(.r x3)])
 .br (okR r0) (.br (not (gB r0 0)) (let r1:TR:=(zr [])
 .br (okR r1) (.leaf (0,[(.b (gB r1 0))])) .fail) (let r1:TR:=(ud [(.r x0),(.r x1),(.r x2),(.r x3)])
 .br (okR r1) (.br (ine (gI r1 0) 0) (let r2:TR:=(zr [])
 .br (okR r2) (.leaf (0,[(.b (gB r2 0))])) .fail) (.br (ilt (qh x0) 2) (let r2:TR:=(zr [])
 .br (okR r2) (.leaf (0,[(.b (gB r2 0))])) .fail) (.br (ine (qh x0) 0) (let r2:TR:=(qv [(.r x0)])
 .br (okR r2) (.br (ilt 0 (qh (gR r2 0))) (.br (ile 0 (q5v (uO .i64 x4) (qh x0))) (.br (ile (q5v (uO .i64 x4) (qh x0)) (ql .i64 (q5v (uO .i64 x4) (qh x0)) 1)) (.br (ile (ql .i64 (q5v (uO .i64 x4) (qh x0)) 1) (qh (gR r2 0))) (let r3:TR:=(qv [(.r x1)])
 .br (okR r3) (.br (ilt 0 (qh (gR r3 0))) (.br (ile 0 (q5v (uO .i64 x4) (qh x0))) (.br (ile (q5v (uO .i64 x4) (qh x0)) (ql .i64 (q5v (uO .i64 x4) (qh x0)) 1)) (.br (ile (ql .i64 (q5v (uO .i64 x4) (qh x0)) 1) (qh (gR r3 0))) (let r4:TR:=(qu [(.r x2)])
 .br (okR r4) (.br (ilt 0 (qh (gR r4 0))) (.br (ile 0 (q5v (uO .i64 x4) (qh x0))) (.br (ile (q5v (uO .i64 x4) (qh x0)) (ql .i64 (q5v (uO .i64 x4) (qh x0)) 1)) (.br (ile (ql .i64 (q5v (uO .i64 x4) (qh x0)) 1) (qh (gR r4 0))) (let r5:TR:=(qu [(.r x3)])
 .br (okR r5) (.br (ilt 0 (qh (gR r5 0))) (.br (ile 0 (q5v (uO .i64 x4) (qh x0))) (.br (ile (q5v (uO .i64 x4) (qh x0)) (ql .i64 (q5v (uO .i64 x4) (qh x0)) 1)) (.br (ile (ql .i64 (q5v (uO .i64 x4) (qh x0)) 1) (qh (gR r5 0))) (let r6:TR:=(qY [(.r x0),(.r x1),(.r x2),(.r x3)])
 .br (okR r6) (let r7:TR:=(qY [(.r (q48 (gR r2 0) (q5v (uO .i64 x4) (qh x0)) (ql .i64 (q5v (uO .i64 x4) (qh x0)) 1))),(.r (q48 (gR r3 0) (q5v (uO .i64 x4) (qh x0)) (ql .i64 (q5v (uO .i64 x4) (qh x0)) 1))),(.r (q48 (gR r4 0) (q5v (uO .i64 x4) (qh x0)) (ql .i64 (q5v (uO .i64 x4) (qh x0)) 1))),(.r (q48 (gR r5 0) (q5v (uO .i64 x4) (qh x0)) (ql .i64 (q5v (uO .i64 x4) (qh x0)) 1)))])
 .br (okR r7) (let r8:TR:=(vl [(.r x0),(.r x1)])
 .br (okR r8) (let r9:TR:=(vl [(.r (q48 (gR r2 0) (q5v (uO .i64 x4) (qh x0)) (ql .i64 (q5v (uO .i64 x4) (qh x0)) 1))),(.r (q48 (gR r3 0) (q5v (uO .i64 x4) (qh x0)) (ql .i64 (q5v (uO .i64 x4) (qh x0)) 1)))])
 .br (okR r9) (.br (ieq (ql .i64 (ql .i64 (ql .i64 (gI r6 4) (gI r7 4)) (gI r8 1)) (gI r9 1)) 0) (.br (not (gB r6 0)) (.br (not (gB r8 0)) (let r10:TR:=(zr [])
 .br (okR r10) (.leaf (0,[(.b (gB r10 0))])) .fail) (.br (gB r9 0) (let r10:TR:=(zr [])
 .br (okR r10) (.leaf (0,[(.b (gB r10 0))])) .fail) (.leaf (0,[(.b false)])))) (.br (gB r7 0) (.br (not (gB r8 0)) (let r10:TR:=(zr [])
 .br (okR r10) (.leaf (0,[(.b (gB r10 0))])) .fail) (.br (gB r9 0) (let r10:TR:=(zr [])
 .br (okR r10) (.leaf (0,[(.b (gB r10 0))])) .fail) (.leaf (0,[(.b false)])))) (.leaf (0,[(.b false)])))) (.leaf (0,[(.b false)]))) .fail) .fail) .fail) .fail) .fail) .fail) .fail) .fail) .fail) .fail) .fail) .fail) .fail) .fail) .fail) .fail) .fail) .fail) .fail) .fail) .fail) .fail) .fail) .fail) .fail))) .fail)) .fail):=by kernel_rfl
end Go.Eng

namespace Go.Eng
mutual
def qeO{H:Type}:DataW H→List U
 | .lit (.bool b)=>[.b b]
 | .lit (.int _ n)=>[.i n]
 | .lit (.string s)=>[.s s]
 | .nil=>[.l []]
 | .slice es _=>[.l (ql5 es)]
 | .agg ps=>qoT ps
 | _=>[.i 0]
def qoT{H:Type}:List (DataW H)→List U
 | []=>[]
 | d::l=>qeO d++qoT l
def ql5{H:Type}:List (DataW H)→List (List U)
 | []=>[]
 | d::l=>qeO d::ql5 l
end
theorem qcH{H:Type}:∀l:List (DataW H),ql5 l=l.map qeO
 | []=>rfl
 | d::l=>by simp[ql5,qcH l]
inductive UFit:Sh→U→Prop
 | int (k:IntKind) (n:Int) (h0:k.min≤n) (h1:n≤k.max):UFit (.int k) (.i n)
 | bool (b:Bool):UFit .bool (.b b)
 | str (s:List UInt8) (h:s.length≤maxLen):UFit .str (.s s)
 | sl (row:List Sh) (l:R) (h:l.length≤maxLen) (hl:∀r,r∈l→r.length=row.length) (hf:∀(r:List U) (j:Nat) (s:Sh) (u:U),r∈l→row[j]?=some s→r[j]?=some u→UFit s u):UFit (.sl row) (.l l)
inductive CR (W:World) (M:Nat→Prop):List Sh→List U→List Value→Prop
 | nil:CR W M [] [] []
 | cons {s:Sh} {u:U} {v:Value} {sh:List Sh} {us:List U} {vs:List Value} (h:RepU W M s u v) (f:UFit s u) (t:CR W M sh us vs):CR W M (s::sh) (u::us) (v::vs)
theorem CR.append{W:World}{M:Nat→Prop}{a a':List Sh}{b b':List U}{c c':List Value}(h:CR W M a b c)(k:CR W M a' b' c'):CR W M (a++a') (b++b') (c++c'):=by
 induction h with
 | nil=>exact k
 | cons h f t ih=>exact .cons h f ih
theorem CR.len{W:World}{M:Nat→Prop}{a:List Sh}{b:List U}{c:List Value}(h:CR W M a b c):b.length=a.length∧c.length=a.length:=by
 induction h with
 | nil=>exact⟨rfl,rfl⟩
 | cons h f t ih=>simp[ih.1,ih.2]
theorem CR.get{W:World}{M:Nat→Prop}{a:List Sh}{b:List U}{c:List Value}(h:CR W M a b c):∀(j:Nat) (s:Sh),a[j]?=some s→∃u v,b[j]?=some u∧c[j]?=some v∧RepU W M s u v∧UFit s u:=by
 induction h with
 | nil=>intro j s hj;simp at hj
 | cons h f t ih=>
  intro j s hj
  cases j with
  | zero=>simp at hj;subst hj;exact⟨_,_,rfl,rfl,h,f⟩
  | succ j=>simpa using ih j s (by simpa using hj)
def qjD:Nat→List (Nat×TypeId×Nat)→Bool
 | _,[]=>true
 | o,f::l=>Nat.beq f.1 o&&qjD (o+f.2.2) l
def qp3:List (Nat×TypeId×Nat)→Nat
 | []=>0
 | f::l=>f.2.2+qp3 l
def qmw(x:TI):Bool:=match x.d with
 | .struct fs=>qjD 0 fs&&Nat.beq (qp3 fs) x.size
 | .array n _ es=>Nat.beq (n*es) x.size
 | .slice _ es=>Nat.blt 0 es
 | _=>true
theorem qso{E:Env}(h:E.tt.all (fun x=>qmw x.2)=true)(t:TypeId):qmw (E.ty t)=true:=by
 unfold Env.ty
 cases hf:E.tt.find? fun x=>x.1==t with
 | none=>rfl
 | some x=>exact List.all_eq_true.1 h x (List.mem_of_find?_eq_some hf)
section
variable {H:Type} {enc:TypeId×Value→H} {P:Program} {W:World} {base:Nat} {sp:Nat→Bool} {held:Bool} {E:Env}
theorem qix{M:Nat→Prop}{fuel n:Nat}{cs:List Value}(ih:∀t cs d ps sh,E.shape n t=some sh→DataW.trod enc P W base sp held fuel t cs=some (d,ps)→CR W M sh (qeO d) cs) :
  ∀(fs:List (Nat×TypeId×Nat)) (o:Nat) (xs:List (DataW H×List MemPlace)) (shs:List (List Sh)),qjD o fs=true→o+qp3 fs=cs.length→fs.mapM (fun f=>E.shape n f.2.1)=some shs →
   xs.length=fs.length→(∀(i:Nat) (f:Nat×TypeId×Nat),fs[i]?=some f→DataW.trod enc P W base sp held fuel f.2.1 ((cs.drop f.1).take f.2.2)=xs[i]?) →
   CR W M shs.flatten (qoT (xs.map (·.1))) (cs.drop o)
 | [],o,xs,shs,_,hs,hsh,hl,_=>by
  simp[qp3] at hs hsh hl
  subst hsh hl
  have:cs.drop o=[]:=List.drop_eq_nil_of_le (by omega)
  rw[this]
  exact .nil
 | f::fs,o,xs,shs,hlay,hs,hsh,hl,hx=>by
  simp only[qjD,Bool.and_eq_true] at hlay
  obtain⟨h1,h2⟩:=hlay
  have ho:f.1=o:=Nat.eq_of_beq_eq_true h1
  simp only[qp3] at hs
  rw[List.mapM_cons] at hsh
  cases hsf:E.shape n f.2.1 with
  | none=>rw[hsf] at hsh;cases hsh
  | some shf=>
   cases hrest:fs.mapM (fun f=>E.shape n f.2.1) with
   | none=>rw[hsf,hrest] at hsh;cases hsh
   | some shr=>
    rw[hsf,hrest] at hsh
    cases hsh
    cases xs with
    | nil=>simp at hl
    | cons x xs=>
     have h0:=hx 0 f rfl
     simp only[List.getElem?_cons_zero] at h0
     have c1:=ih f.2.1 _ x.1 x.2 shf hsf h0
     rw[ho] at c1
     have c2:=qix (cs:=cs) (M:=M) (fuel:=fuel) ih fs (o+f.2.2) xs shr h2 (by omega) hrest (by simpa using hl) fun i g hg=>by
      have:=hx (i+1) g (by simpa using hg)
      simpa using this
     have hsplit:cs.drop o=(cs.drop o).take f.2.2++cs.drop (o+f.2.2):=by
      rw[←List.drop_drop,List.take_append_drop]
     rw[hsplit]
     simp only[List.flatten_cons,List.map_cons,qoT]
     exact c1.append c2
theorem qkk{M:Nat→Prop}{fuel n es:Nat}{e:TypeId}{cs:List Value}{she:List Sh}(he:E.shape n e=some she)
  (ih:∀t cs d ps sh,E.shape n t=some sh→DataW.trod enc P W base sp held fuel t cs=some (d,ps)→CR W M sh (qeO d) cs) :
  ∀(m o:Nat) (xs:List (DataW H×List MemPlace)),(o+m)*es=cs.length→xs.length=m→(∀i,i<m→DataW.trod enc P W base sp held fuel e ((cs.drop ((o+i)*es)).take es)=xs[i]?) →
   CR W M (List.replicate m she).flatten (qoT (xs.map (·.1))) (cs.drop (o*es))
 | 0,o,xs,hs,hl,_=>by
  simp at hl hs;subst hl
  have:cs.drop (o*es)=[]:=List.drop_eq_nil_of_le (by omega)
  rw[this]
  exact .nil
 | m+1,o,xs,hs,hl,hx=>by
  cases xs with
  | nil=>simp at hl
  | cons x xs=>
   have h0:=hx 0 (by omega)
   simp only[List.getElem?_cons_zero,Nat.add_zero] at h0
   have c1:=ih e _ x.1 x.2 she he h0
   have c2:=qkk (cs:=cs) he ih m (o+1) xs (by rw[←hs];congr 1;omega) (by simpa using hl) fun i hi=>by
    have:=hx (i+1) (by omega)
    rw[show o+(i+1)=o+1+i by omega] at this
    simpa using this
   have hsplit:cs.drop (o*es)=(cs.drop (o*es)).take es++cs.drop ((o+1)*es):=by
    rw[Nat.add_mul,Nat.one_mul,←List.drop_drop,List.take_append_drop]
   rw[hsplit]
   simp only[List.replicate_succ,List.flatten_cons,List.map_cons,qoT]
   exact c1.append c2
theorem qo3(hE:E.tok P)(hlay:E.tt.all (fun x=>qmw x.2)=true):∀(fuel n:Nat) (t:TypeId) (cs:List Value) (d:DataW H) (ps:List MemPlace) (sh:List Sh),E.shape n t=some sh →
  DataW.trod enc P W base sp held fuel t cs=some (d,ps)→CR W (fun b=>b<W.heap.size) sh (qeO d) cs:=by
 intro fuel
 induction fuel with
 | zero=>intro n t cs d ps sh _ h;simp[DataW.trod] at h
 | succ fuel ih=>
  intro n t cs d ps sh hsh h
  cases n with
  | zero=>simp[Env.shape] at hsh
  | succ n=>
   simp only[Env.shape] at hsh
   have hl:=qso hlay t
   unfold qmw at hl
   cases hd:(E.ty t).d<;>rw[hd] at hsh hl<;>simp only at hsh hl<;>try (cases hsh)
   ·
    unfold DataW.trod at h
    rw[qgG hE hd] at h
    split at h<;>simp_all
    obtain⟨rfl,_⟩:=h
    exact .cons (.bool (.b _)) (.bool _) .nil
   ·
    rename_i k
    unfold DataW.trod at h
    rw[qh6 hE hd] at h
    split at h<;>simp_all
    obtain⟨⟨rfl,hw⟩,rfl,_⟩:=h
    simp[Lit.wf] at hw
    exact .cons (.int _ (.i _)) (.int _ _ hw.1 hw.2) .nil
   ·
    unfold DataW.trod at h
    rw[qbo hE hd] at h
    split at h<;>simp_all
    rename_i s
    obtain⟨hm,rfl,_⟩:=h
    refine .cons ?_ (.str _ (by simpa using hm)) .nil
    have:=RepU.str (w:=W) (M:=fun b=>b<W.heap.size) (.s s.data.toList)
    simpa[U.toS] using this
   ·
    rename_i e es
    obtain⟨ht,rfl⟩:=yZ hE hd
    cases he:E.shape n e with
    | none=>rw[he] at hsh;cases hsh
    | some she=>
     rw[he] at hsh
     cases hsh
     have hpos:0<P.cellsOf e:=by simpa[Nat.blt_eq] using hl
     rcases DataW.trod_slice ht h with⟨rfl,hx⟩|⟨a,len,cap,elems,rest,k,hk,rfl,hx,hb,hlc,hcm,hlen,hel,_,_⟩
     ·cases hx
      exact .cons (.slnil _ _ rfl) (.sl _ _ (by simp[maxLen]) (fun r hr=>by cases hr) (fun r j s u hr=>by cases hr)) .nil
     ·cases hx
      cases hk
      have hrow:∀(i:Nat) (hi:i<len),∃cs',W.cells? base (a.add (i*P.cellsOf e)) (P.cellsOf e)=some cs'∧CR W (fun b=>b<W.heap.size) she (qeO (elems[i]'(by omega)).1) cs':=by
       intro i hi
       have h0:=hel i hi
       rw[List.getElem?_eq_getElem (by omega)] at h0
       obtain⟨cs',g1,g2⟩:=Option.bind_eq_some_iff.1 h0
       exact⟨cs',g1,ih n e cs' _ _ she he g2⟩
      have hget:∀(r:Nat) (hr:r<len),(((elems.map (·.1)).map qeO).getD r []:List U)=qeO (elems[r]'(by omega)).1:=by
       intro r hr
       simp[List.getD_eq_getElem?_getD,hlen,hr]
      have hcell:∀(r j:Nat) (s:Sh) (hr:r<len),she[j]?=some s→∃v,W.cell? ⟨a.block,a.off+r*she.length+j,none⟩=some v∧RepU W (fun b=>b<W.heap.size) s (zZ (ql5 (elems.map (·.1))) r j) v∧UFit s ((qeO (elems[r]'(by omega)).1).getD j (.i 0))∧a.spot=none∧a.block<W.heap.size:=by
       intro r j s hr hj
       obtain⟨cs',g1,g2⟩:=hrow r hr
       obtain⟨_,g4,g5⟩:=World.cells?_some g1
       obtain⟨q1,q2⟩:=g2.len
       obtain⟨u,v,e1,e2,e3,e4⟩:=g2.get j s hj
       have hlen:she.length=P.cellsOf e:=by rw[←q2,g4]
       have hjl:j<P.cellsOf e:=by rw[←hlen];exact qk hj
       have hc:=(g5 j hjl).trans e2
       have h00:=g5 0 hpos
       obtain⟨cs0,z1,z2⟩:=hrow 0 (by omega)
       obtain⟨_,z4,z5⟩:=World.cells?_some z1
       have hz:=z5 0 hpos
       obtain⟨v0,hv0⟩:∃v0,cs0[0]?=some v0:=⟨cs0[0],List.getElem?_eq_getElem (by omega)⟩
       rw[hv0] at hz
       simp only[Nat.zero_mul,Addr.add,if_true] at hz
       have hspot:=World.cell?_spot hz
       refine⟨v,?_,?_,?_,hspot,World.block_lt_of_cell? _ _ hz⟩
       ·rw[←hc,Addr.add_of hspot,Addr.add_lit,hlen]
       ·have:zZ (ql5 (elems.map (·.1))) r j=u:=by
         rw[qcH]
         unfold zZ
         rw[Int.toNat_natCast,hget r hr]
         simp[List.getD_eq_getElem?_getD,e1]
        rw[this];exact e3
       ·simp[List.getD_eq_getElem?_getD,e1];exact e4
      have hrl:(ql5 (elems.map (·.1))).length=len:=by rw[qcH];simp[hlen]
      have hsh0:0<len→0<she.length:=by
       intro hl0
       obtain⟨cs',g1,g2⟩:=hrow 0 hl0
       obtain⟨_,g4,_⟩:=World.cells?_some g1
       rw[←g2.len.2,g4];exact hpos
      refine .cons ?_ (.sl _ _ (by rw[hrl];omega) ?_ ?_) .nil
      ·have hR:=q7G (w:=W) (M:=fun b=>b<W.heap.size) (row:=she) (l:=ql5 (elems.map (·.1))) (v:=.slice (some a) len cap) (.inr ⟨a,cap,by rw[hrl],fun h0=>by
        rw[hrl] at h0
        obtain⟨_,_,_,_,h4,_⟩:=hcell 0 0 she[0] h0 (List.getElem?_eq_getElem (hsh0 h0))
        exact h4,by rw[hrl];exact hlc,fun r j hj hr=>by
        rw[hrl] at hr
        obtain⟨v,h1,h2,_,_,h5⟩:=hcell r j she[j] hr (List.getElem?_eq_getElem hj)
        exact⟨h5,v,h1,h2⟩⟩)
       exact hR
      ·intro r hr
       rw[qcH] at hr
       obtain⟨i,hi⟩:=List.getElem?_of_mem hr
       have hil:i<len:=by have:=qk hi;simpa[hlen] using this
       have:r=qeO (elems[i]'(by omega)).1:=by
        rw[←hget i hil,List.getD_eq_getElem?_getD,hi];rfl
       obtain⟨cs',g1,g2⟩:=hrow i hil
       rw[this];exact g2.len.1
      ·intro r j s u hr hs hu
       rw[qcH] at hr
       obtain⟨i,hi⟩:=List.getElem?_of_mem hr
       have hil:i<len:=by have:=qk hi;simpa[hlen] using this
       have:r=qeO (elems[i]'(by omega)).1:=by
        rw[←hget i hil,List.getD_eq_getElem?_getD,hi];rfl
       subst this
       obtain⟨_,_,_,h3,_⟩:=hcell i j s hil hs
       simpa[List.getD_eq_getElem?_getD,hu] using h3
   ·
    rename_i m e es
    obtain⟨ht,rfl⟩:=q5Z hE hd
    cases he:E.shape n e with
    | none=>rw[he] at hsh;cases hsh
    | some she=>
     rw[he] at hsh
     cases hsh
     obtain⟨xs,m0,hf,hx,hcl,hxl,hel⟩:=DataW.trod_array ht h
     cases hf
     cases hx
     have hsz:m*P.cellsOf e=cs.length:=by
      rw[hcl]
      have h1:=Nat.eq_of_beq_eq_true hl
      obtain⟨_,i,dd,h2,_,_,h4,_⟩:=uf hE (t:=t) (by rw[hd];rfl)
      rw[h1,h4]
      unfold Program.cellsOf
      rw[h2];rfl
     have:=qkk (cs:=cs) he (fun t cs d ps sh h1 h2=>ih n t cs d ps sh h1 h2) m 0 xs (by simpa using hsz) hxl (fun i hi=>by simpa using hel i hi)
     simpa[qeO] using this
   ·
    rename_i fs
    obtain⟨fields,ht,rfl⟩:=q3f hE hd
    cases hm:(fields.toList.map fun f=>(f.offset,f.type,P.cellsOf f.type)).mapM fun f=>E.shape n f.2.1 with
    | none=>rw[hm] at hsh;cases hsh
    | some shs=>
     rw[hm] at hsh
     cases hsh
     obtain⟨xs,m0,hf,hx,hcl,hxl,hel⟩:=DataW.trod_struct ht h
     cases hf
     cases hx
     simp only[Bool.and_eq_true] at hl
     have hsz:qp3 (fields.toList.map fun f=>(f.offset,f.type,P.cellsOf f.type))=cs.length:=by
      rw[hcl]
      have h1:=Nat.eq_of_beq_eq_true hl.2
      obtain⟨_,i,dd,h2,_,_,h4,_⟩:=uf hE (t:=t) (by rw[hd];rfl)
      rw[h1,h4]
      unfold Program.cellsOf
      rw[h2];rfl
     have:=qix (cs:=cs) (fun t cs d ps sh h1 h2=>ih n t cs d ps sh h1 h2) _ 0 xs shs hl.1 (by simpa using hsz) hm (by simpa using hxl) (fun i f hf=>by
      rw[List.getElem?_map] at hf
      cases hfi:fields.toList[i]? with
      | none=>rw[hfi] at hf;cases hf
      | some g=>
       rw[hfi] at hf
       cases hf
       exact hel i g (by simpa using hfi))
     simpa[qeO] using this
end
end Go.Eng

namespace Go.Eng
open Go.RowKit
inductive UFits:List Sh→List U→Prop
 | nil:UFits [] []
 | cons {s:Sh} {u:U} {sh:List Sh} {us:List U} (h:UFit s u) (t:UFits sh us):UFits (s::sh) (u::us)
theorem CR.fits{W:World}{M:Nat→Prop}{a:List Sh}{b:List U}{c:List Value}(h:CR W M a b c):UFits a b:=by
 induction h with
 | nil=>exact .nil
 | cons h f t ih=>exact .cons f ih
def q43:List Sh→List U→List AV
 | .int k::sh,u::us=>.int k u.toI::q43 sh us
 | .bool::sh,u::us=>.bool u.toB::q43 sh us
 | .str::sh,u::us=>.str u.toS::q43 sh us
 | .sl row::sh,u::us=>.imm row u.toR::q43 sh us
 | _,_=>[]
theorem qpc{X:Ctx}{sh:List Sh}{us:List U}{vs:List Value}(h:CR X.w X.M sh us vs):RepL X (q43 sh us) vs:=by
 induction h with
 | nil=>exact .nil
 | cons h f t ih=>
  rename_i s u v sh us vs
  cases s with
  | int k=>cases h;exact .cons (.int _ _) ih
  | bool=>cases h;exact .cons (.bool _) ih
  | str=>cases h;exact .cons (.str _) ih
  | sl row=>exact .cons (.imm _ _ _ (qcQ h)) ih
def qkO(agg:Bool)(sh:List Sh)(us:List U):AV:=match agg with
 | true=>.agg (q43 sh us)
 | false=>(q43 sh us).headD .undef
section
variable {H:Type} {enc:TypeId×Value→H} {P:Program} {W:World} {base:Nat} {sp:Nat→Bool} {held:Bool} {E:Env}
theorem qnq(hE:E.tok P)(hlay:E.tt.all (fun x=>qmw x.2)=true){X:Ctx}(hw:X.w=W)(hM:X.M=fun b=>b<W.heap.size){r:Reach}{b0:Nat}{n:Nat}{t:TypeId}{v:Value}{d:DataW H}{ps:List MemPlace}{sh:List Sh}
  (hsh:E.shape n t=some sh) (hv:Value.okWide P W r b0 t v) (hd:DataW.Trod enc P W base sp held t v d ps):UFits sh (qeO d)∧Rep X (qkO (E.ty t).d.isAgg sh (qeO d)) v:=by
 obtain⟨fuel,hf⟩:=hd
 have hc:=qo3 hE hlay fuel n t _ d ps sh hsh hf
 refine⟨hc.fits,?_⟩
 have hr:RepL X (q43 sh (qeO d)) v.cells.toList:=qpc (by rw[hw,hM];exact hc)
 have hone:∀(_:(E.ty t).d.isAgg=false),v.cells=#[v]→Rep X (qkO (E.ty t).d.isAgg sh (qeO d)) v:=by
  intro ha hcell
  rw[ha]
  rw[hcell] at hr
  simp only[qkO]
  generalize q43 sh (qeO d)=l at hr
  cases hr with
  | cons h1 h2=>simpa using h1
 unfold Value.okWide at hv
 cases n with
 | zero=>simp[Env.shape] at hsh
 | succ n=>
  simp only[Env.shape] at hsh
  cases hd:(E.ty t).d<;>rw[hd] at hsh hone<;>simp only at hsh<;>try (cases hsh)
  ·rw[qgG hE hd] at hv
   refine hone rfl ?_
   cases v<;>simp[Cell.okWide,qgG hE hd,Cell.ok] at hv<;>rfl
  ·rw[qh6 hE hd] at hv
   refine hone rfl ?_
   cases v<;>simp[Cell.okWide,qh6 hE hd,Cell.ok] at hv<;>rfl
  ·rw[qbo hE hd] at hv
   refine hone rfl ?_
   cases v<;>simp[Cell.okWide,qbo hE hd,Cell.ok] at hv<;>rfl
  ·rw[(yZ hE hd).1] at hv
   refine hone rfl ?_
   cases v<;>simp[Cell.okWide,(yZ hE hd).1,Cell.ok] at hv<;>rfl
  ·rw[(q5Z hE hd).1] at hv
   obtain⟨cs,rfl,_,_⟩:=hv
   simp only[TD.isAgg,qkO]
   exact .agg _ _ (by simpa[Value.cells] using hr)
  ·obtain⟨fields,ht,_⟩:=q3f hE hd
   rw[ht] at hv
   obtain⟨cs,rfl,_,_⟩:=hv
   simp only[TD.isAgg,qkO]
   exact .agg _ _ (by simpa[Value.cells] using hr)
end
def qo0(W:World):Ctx:={ σ:=fun _=>none,h:=[],w:=W,M:=fun b=>b<W.heap.size }
def qoN(W:World):Base:={ w0:=W,imps:=[],M0:=fun b=>b<W.heap.size,fs:=[] }
theorem qvQ(W:World):HSim (qoN W) (qo0 W):=by
 have hno:∀b n,¬(qo0 W).own b n:=by
  intro b n ⟨h,_⟩;cases h
 refine⟨fun b k h=>?_,fun b b' n h=>absurd h (hno b n),fun b n h=>absurd h (hno b n),fun n h=>h,fun n h=>h,fun n h=>.inl h,rfl,rfl,rfl,Nat.le_refl _,fun _ _ _=>rfl,fun b h=>?_,fun b h=>?_,fun b n h=>absurd h (hno b n),fun p hp=>by cases hp⟩
 ·have:([]:List Blk)[b]?=some k:=h
  simp at this
 ·exact absurd h (by simp[qoN])
 ·exact absurd h (by simp[qoN])
theorem quU(W:World):Entry (qoN W) (qo0 W):=⟨rfl,rfl,fun _ h=>h⟩
theorem qq8{P:Program}{gl:List (Nat×AV)}{f:FuncId}{G:u4}(hG:zk P gl f G){W:World}(hgl:q7y gl (qo0 W)){args:List AV}{vargs:List Value}(ha:RepL (qo0 W) args vargs)
  (h:(G args []).run=some (.bool true,[])):Calls P f vargs.toArray W fun e W'=>e=.returned (.bool true)∧Below W.heap.size W W':=by
 refine(hG.2 (qoN W) (qo0 W) args vargs _ (qvQ W) (quU W) hgl ha h).mono fun e W' ⟨v,X',e1,e2,e3,e4,e5,_⟩=>?_
 subst e2
 refine⟨?_,e5.os,e5.tape,e5.output,e5.size,fun k hk=>e5.frame k hk (by simp[qoN])⟩
 rw[e1]
 cases e3;rfl
theorem qoO{i:FIn}{outs:List FOut}{T:List PV→TR}{args:List AV}{ps:List PV}(ho:outs=[{ res:=.bool,h:=[] }])(hi:i.take args []=some ps)(hT:(T ps).run=some (0,[.b true])) :
  (qa i outs T args []).run=some (.bool true,[]):=by
 subst ho
 unfold qa
 rw[hi]
 simp only[Tree.run,okR,hT,Option.isSome_some]
 simp only[quB,FOut.kinds,AP.kinds,BP.kindsL,List.append_nil,qfj,gB,pR,hT,List.getD_cons_zero,PV.toB,FOut.make,AP.make,BP.makeL,Tree.run]
theorem qqm{P:Program}{W:World}{E:Env}(hE:E.tok P)(hlay:E.tt.all (fun x=>qmw x.2)=true){name:String}{g n:Nat}{t:TypeId}{d:DataW Unit}{sh:List Sh}
  (hg:P.globalNamed name=some g) (hty:(P.globals[g]?).map (·.type)=some t) (hsh:E.shape n t=some sh) {ds:List (String×DataW Unit)} (h:laidMet P ds W) (hm:(name,d)∈ds) :
  qsL (qo0 W) (g,.eptr sh [qeO d] 0 0):=by
 obtain⟨ps,hl,_⟩:=h
 have key:∀(ds:List (String×DataW Unit)) (ps:List MemPlace),DataW.LaidVars P W ds ps→(name,d)∈ds→∃cs fuel p,W.var? P name=some cs∧DataW.trod (fun _=>()) P W 0 (fun _=>true) false fuel t cs.toList=some (d,p):=by
  intro ds
  induction ds with
  | nil=>intro ps _ h;cases h
  | cons x ds ih=>
   intro ps hl hm
   obtain⟨nm,dd⟩:=x
   obtain⟨g',t',cs,fuel,p,q,h1,h2,h3,h4,h5,_⟩:=hl
   rcases List.mem_cons.1 hm with he|hm
   ·cases he
    obtain rfl:=Option.some.inj (hg.symm.trans h1)
    obtain rfl:=Option.some.inj (hty.symm.trans h2)
    exact⟨cs,fuel,p,h3,h4⟩
   ·exact ih q h5 hm
 obtain⟨cs,fuel,p,h3,h4⟩:=key ds ps hl hm
 have hc:=qo3 hE hlay fuel n t _ d p sh hsh h4
 have hheap:∃T fr,W.heap[g]?=some (.cells cs T fr):=by
  unfold World.var? at h3
  rw[hg] at h3
  simp only[Option.bind_some] at h3
  split at h3
  ·rename_i cs' T fr he
   cases h3
   exact⟨T,fr,he⟩
  ·cases h3
 suffices hs:Rows (qo0 W).w (qo0 W).M sh [qeO d] ⟨g,0,none⟩ by
  refine⟨?_,?_,?_⟩
  ·have:=Rep.eptr (X:=qo0 W) sh [qeO d] 0 0 ⟨g,0,none⟩ rfl (Int.le_refl _) (by simp) hs
   simpa using this
  ·obtain⟨T,fr,he⟩:=hheap
   exact(Array.getElem?_eq_some_iff.1 he).1
  ·have:=World.var?_cell hg h3 sh.length
   show W.cell? ⟨g,sh.length*1,none⟩=none
   rw[Nat.mul_one,this,Array.getElem?_eq_none]
   rw[←Array.length_toList,hc.len.2]
   exact Nat.le_refl _
 intro r j hj hr
 have hr0:r=0:=by simpa using hr
 subst hr0
 obtain⟨u,v,e1,e2,e3,_⟩:=hc.get j sh[j] (List.getElem?_eq_getElem hj)
 have hcell:W.cell? ⟨g,j,none⟩=some v:=by
  have:=World.var?_cell hg h3 j
  rw[this];simpa using e2
 refine⟨World.block_lt_of_cell? W ⟨g,j,none⟩ hcell,v,?_,?_⟩
 ·rw[Nat.zero_mul,Nat.add_zero,Nat.zero_add];exact hcell
 have:zZ [qeO d] (0:Nat) j=u:=by simp[zZ,List.getD_eq_getElem?_getD,e1]
 rw[this];exact e3
theorem UFits.int{k:IntKind}{sh:List Sh}{us:List U}(h:UFits (.int k::sh) us):∃n us',us=.i n::us'∧k.min≤n∧n≤k.max∧UFits sh us':=by
 cases h with
 | cons h t=>cases h with
  | int k n h0 h1=>exact⟨n,_,rfl,h0,h1,t⟩
theorem UFits.bool{sh:List Sh}{us:List U}(h:UFits (.bool::sh) us):∃b us',us=.b b::us'∧UFits sh us':=by
 cases h with
 | cons h t=>cases h with
  | bool b=>exact⟨b,_,rfl,t⟩
theorem UFits.str{sh:List Sh}{us:List U}(h:UFits (.str::sh) us):∃s us',us=.s s::us'∧s.length≤maxLen∧UFits sh us':=by
 cases h with
 | cons h t=>cases h with
  | str s h0=>exact⟨s,_,rfl,h0,t⟩
theorem UFits.sl{row sh:List Sh}{us:List U}(h:UFits (.sl row::sh) us):∃l us',us=.l l::us'∧UFit (.sl row) (.l l)∧UFits sh us':=by
 cases h with
 | cons h t=>
  rename_i u us
  cases u with
  | l x=>exact⟨x,_,rfl,h,t⟩
  | _=>cases h
theorem UFits.none{us:List U}(h:UFits [] us):us=[]:=by cases h;rfl
end Go.Eng

namespace Go.Eng
theorem q9v{α:Type}(b:Bool)(t e:Tree α):(Tree.br b t e).run=if b=true then t.run else e.run:=by cases b<;>rfl
theorem q1J{α:Type}(a:α):(Tree.leaf a).run=some a:=rfl
theorem qsz{α:Type}:(Tree.fail:Tree α).run=none:=rfl
theorem qeA{R:TR}{x:Nat×List PV}(h:R.run=some x):okR R=true:=by simp[okR,h]
theorem qkM{R:TR}{j:Nat}{ps:List PV}(h:R.run=some (j,ps))(i:Nat):pR R i=ps.getD i (.i 0):=by simp[pR,h]
theorem vC{x y:Int}(h:-9223372036854775808≤x+y∧x+y≤9223372036854775807):ql .i64 x y=x+y:=by
 unfold ql IntKind.wrap
 simp[IntKind.signed,IntKind.bits];omega
theorem yE{x y:Int}(h:-9223372036854775808≤x-y∧x-y≤9223372036854775807):qE .i64 x y=x-y:=by
 unfold qE IntKind.wrap
 simp[IntKind.signed,IntKind.bits];omega
theorem q3z{x y:Int}(h:-9223372036854775808≤x*y∧x*y≤9223372036854775807):yW .i64 x y=x*y:=by
 unfold yW IntKind.wrap
 simp[IntKind.signed,IntKind.bits];omega
theorem qgr(x y:Int):(ieq x y=true)=(x=y):=by simp[ieq]
theorem qji(x y:Int):(ine x y=true)=(x≠y):=by simp[ine]
theorem qey(x y:Int):(ilt x y=true)=(x<y):=by simp[ilt]
theorem q6g(x y:Int):(ile x y=true)=(x≤y):=by simp[ile]
theorem qjV(x y:Bool):(Go.Eng.beq x y=true)=(x=y):=by simp[Go.Eng.beq]
theorem qtG{a b A B:Int}(h1:-A≤a)(h2:a≤A)(h3:-B≤b)(h4:b≤B):-(A*B)≤a*b∧a*b≤A*B:=by
 have e1:=Int.mul_nonneg (show 0≤A-a by omega) (show 0≤B-b by omega)
 have e2:=Int.mul_nonneg (show 0≤A+a by omega) (show 0≤B+b by omega)
 have e3:=Int.mul_nonneg (show 0≤A-a by omega) (show 0≤B+b by omega)
 have e4:=Int.mul_nonneg (show 0≤A+a by omega) (show 0≤B-b by omega)
 simp only[Int.sub_mul,Int.mul_sub,Int.add_mul,Int.mul_add] at e1 e2 e3 e4
 omega
theorem qrf{x:Int}(h:-9223372036854775807≤x∧x≤9223372036854775807):qE .i64 0 x=-x:=by
 rw[yE (by omega)];omega
theorem qs5{x:Int}(h:-9223372036854775808≤x∧x≤9223372036854775807):uO .i64 x=x:=by
 unfold uO IntKind.wrap
 simp[IntKind.signed,IntKind.bits];omega
theorem qsc(b:Bool):((!b)=true)=¬(b=true):=by cases b<;>simp
theorem qs6(x y:Bool):(qrY x y=true)=(x=true∧y=true):=by simp[qrY]
theorem qvu(i n:Int):(inb i n=true)=(0≤i∧i<n):=by simp[inb]
theorem qu5(i n:Int):(q8k i n=true)=(0≤i∧i≤n):=by simp[q8k]
theorem STD:(∀(α:Type) (b:Bool) (t e:Tree α),(Tree.br b t e).run=if b=true then t.run else e.run)∧(∀(α:Type) (a:α),(Tree.leaf a).run=some a)∧(∀(α:Type),(Tree.fail:Tree α).run=none) ∧
  (∀R:TR,okR R=R.run.isSome)∧(∀(α:Type) (a:α),(some a).isSome=true)∧(∀(R:TR) (i:Nat),gI R i=(pR R i).toI)∧(∀(R:TR) (i:Nat),gB R i=(pR R i).toB)∧(∀(R:TR) (i:Nat),gS R i=(pR R i).toS)∧(∀(R:TR) (i:Nat),gR R i=(pR R i).toR) ∧
  (∀(R:TR) (i:Nat),pR R i=R.run.elim (.i 0) fun r=>r.2.getD i (.i 0))∧(∀(α β:Type) (b:β) (f:α→β) (a:α),(some a).elim b f=f a) ∧
  (∀(a:PV) (l:List PV) (d:PV),(a::l).getD 0 d=a)∧(∀(a:PV) (l:List PV) (d:PV) (n:Nat),(a::l).getD (n+1) d=l.getD n d) ∧
  (∀n,(PV.i n).toI=n)∧(∀b,(PV.b b).toB=b)∧(∀s,(PV.s s).toS=s)∧(∀l,(PV.r l).toR=l) ∧
  (∀(α:Type) (h:Decidable True) (a b:α),@ite α True h a b=a)∧(∀(α:Type) (h:Decidable False) (a b:α),@ite α False h a b=b)∧((false=true)=False)∧((true=false)=False)∧((true=true)=True) ∧
  (∀x y,(ieq x y=true)=(x=y))∧(∀x y,(ine x y=true)=(x≠y))∧(∀x y,(ilt x y=true)=(x<y))∧(∀x y,(ile x y=true)=(x≤y))∧(∀x y,(Go.Eng.beq x y=true)=(x=y)) ∧
  (∀x y,(qrY x y=true)=(x=true∧y=true))∧(∀b:Bool,((!b)=true)=¬(b=true))∧(∀i n,(inb i n=true)=(0≤i∧i<n))∧(∀i n,(q8k i n=true)=(0≤i∧i≤n)) ∧
  (∀(p:Prop) (_:Decidable p),(decide p=true)=p)∧(∀(α:Type) (a b:α),(a≠b)=¬(a=b))∧(¬True)=False∧(¬False)=True:=
 ⟨fun _=>q9v,fun _=>q1J,fun _=>qsz,fun _=>rfl,fun _ _=>rfl,fun _ _=>rfl,fun _ _=>rfl,fun _ _=>rfl,fun _ _=>rfl,fun R i=>by unfold pR;cases R.run<;>rfl,fun _ _ _ _ _=>rfl,
  fun _ _ _=>rfl,fun _ _ _ _=>rfl,fun _=>rfl,fun _=>rfl,fun _=>rfl,fun _=>rfl,fun _ _ _ _=>by simp,fun _ _ _ _=>by simp,by simp,by simp,by simp,qgr,qji,qey,q6g,qjV,
  qs6,qsc,qvu,qu5,fun _ _=>by simp,fun _ _ _=>rfl,by simp,by simp⟩
theorem wI{R:TR}{j:Nat}{ps:List PV}(h:R.run=some (j,ps))(i:Nat):(jIs R i=true)=(j=i):=by simp[jIs,jR,h]
theorem run_bind{α β:Type}(t:Tree α)(f:α→Tree β):(t.bind f).run=t.run.bind fun a=>(f a).run:=by
 induction t with
 | leaf a=>rfl
 | br b t e iht ihe=>cases b<;>simp[Tree.bind,Tree.run,iht,ihe]
 | fail=>rfl
theorem qav{S:List PV→TR}{n:Nat}{ps qs:List PV}(h:(S ps).run=some (0,qs)):(qcK S (n+1) ps).run=(qcK S n qs).run:=by
 simp[qcK,run_bind,h]
theorem q3o{S:List PV→TR}{n j:Nat}{ps qs:List PV}(h:(S ps).run=some (j+1,qs)):(qcK S (n+1) ps).run=some (j,qs):=by
 simp[qcK,run_bind,h,Tree.run]
def q2a{α:Type}(f:Nat→Option α):Nat→Nat→Option α
 | _,0=>none
 | i,k+1=>match f i with
  | some a=>some a
  | none=>q2a f (i+1) k
theorem qiu{S:List PV→TR}(st:Nat→List PV)(f:Nat→Option (Nat×List PV))(fin:Nat×List PV)(n:Nat)
  (h1:∀i,i<n→f i=none→(S (st i)).run=some (0,st (i+1))) (h2:∀i r,i<n→f i=some r→(S (st i)).run=some (r.1+1,r.2))
  (h3:(S (st n)).run=some (fin.1+1,fin.2)):∀(k i m:Nat),i+k=n→k<m→(qcK S m (st i)).run=some ((q2a f i k).getD fin)
 | 0,i,m,hi,hm=>by
  obtain⟨m,rfl⟩:∃m',m=m'+1:=⟨m-1,by omega⟩
  have:i=n:=by omega
  subst this
  rw[q3o h3];rfl
 | k+1,i,m,hi,hm=>by
  obtain⟨m,rfl⟩:∃m',m=m'+1:=⟨m-1,by omega⟩
  cases hf:f i with
  | none=>
   rw[qav (h1 i (by omega) hf),qiu st f fin n h1 h2 h3 k (i+1) m (by omega) (by omega)]
   simp[q2a,hf]
  | some r=>
   rw[q3o (h2 i r (by omega) hf)]
   simp[q2a,hf]
theorem qcs{S:List PV→TR}(st:Nat→List PV)(f:Nat→Option (Nat×List PV))(fin:Nat×List PV)(n:Nat)(hn:n<9223372036854775808)
  (h1:∀i,i<n→f i=none→(S (st i)).run=some (0,st (i+1))) (h2:∀i r,i<n→f i=some r→(S (st i)).run=some (r.1+1,r.2))
  (h3:(S (st n)).run=some (fin.1+1,fin.2)):(qw S (st 0)).run=some ((q2a f 0 n).getD fin):=
 qiu st f fin n h1 h2 h3 n 0 q9j (by omega) (Nat.lt_trans hn (by unfold q9j;decide))
theorem kZ{S:List PV→TR}(st:Nat→List PV)(fin:Nat×List PV)(n:Nat)(hn:n<9223372036854775808)
  (h1:∀i,i<n→(S (st i)).run=some (0,st (i+1))) (h3:(S (st n)).run=some (fin.1+1,fin.2)):(qw S (st 0)).run=some fin:=by
 have h:=qcs st (fun _=>none) fin n hn (fun i hi _=>h1 i hi) (fun i r _ h=>by cases h) h3
 have e:∀k i,q2a (fun _=>(none:Option (Nat×List PV))) i k=none:=by
  intro k;induction k with
  | zero=>intro i;rfl
  | succ k ih=>intro i;simp[q2a,ih]
 rw[e] at h;exact h
theorem q4V{α:Type}{f:Nat→Option α}:∀{k i:Nat},q2a f i k=none→∀j,i≤j→j<i+k→f j=none
 | 0,i,_,j,h1,h2=>by omega
 | k+1,i,h,j,h1,h2=>by
  simp only[q2a] at h
  cases hf:f i with
  | some a=>rw[hf] at h;cases h
  | none=>
   rw[hf] at h
   rcases Nat.eq_or_lt_of_le h1 with rfl|h1
   ·exact hf
   ·exact q4V h j h1 (by omega)
theorem qaB{α:Type}{f g:Nat→Option α}:∀{k i:Nat},(∀j,i≤j→j<i+k→f j=g j)→q2a f i k=q2a g i k
 | 0,i,_=>rfl
 | k+1,i,h=>by
  simp only[q2a]
  rw[h i (by omega) (by omega),qaB (fun j h1 h2=>h j (by omega) (by omega))]
theorem qjk{α β:Type}(g:α→β){f:Nat→Option α}:∀{k i:Nat},q2a (fun j=>(f j).map g) i k=(q2a f i k).map g
 | 0,i=>rfl
 | k+1,i=>by
  simp only[q2a]
  cases f i with
  | some a=>rfl
  | none=>exact qjk g
theorem qaU{i n:Nat}(h:i<n)(hn:n<9223372036854775808):ql .i64 (i:Int) 1=((i+1:Nat):Int):=by
 rw[vC (by omega)];omega
theorem qlf{α:Type}(n:Nat):∀i,q2a (fun _=>(none:Option α)) i n=none:=by
 induction n with
 | zero=>intro i;rfl
 | succ n ih=>intro i;simp[q2a,ih]
def pick(p:Nat→Bool):Nat→R
 | 0=>[]
 | n+1=>if p n then q2g (pick p n) [[.i (n:Int)]] else pick p n
theorem qnW(p:Nat→Bool):∀n,(pick p n).length≤n
 | 0=>Nat.le_refl _
 | n+1=>by
  have:=qnW p n
  unfold pick;split
  ·simp[q2g];omega
  ·omega
def qf9(f:Nat→Int)(i:Nat):Option Int:=if f i=0 then none else some (f i)
theorem qr2{f:Nat→Int}{n:Nat}(h:q2a (qf9 f) 0 n=none)(i:Nat)(hi:i<n):f i=0:=by
 have:=q4V h i (by omega) (by omega)
 unfold qf9 at this;split at this
 ·assumption
 ·cases this
theorem qj6{f:Nat→Int}:∀{k i:Nat} {e:Int},q2a (qf9 f) i k=some e→e≠0
 | 0,i,e,h=>by cases h
 | k+1,i,e,h=>by
  simp only[q2a] at h
  unfold qf9 at h
  by_cases h0:f i=0
  ·rw[if_pos h0] at h;exact qj6 h
  ·rw[if_neg h0] at h;simp at h;omega
def q2c(e:Nat→Int)(n:Nat):Int:=(q2a (qf9 e) 0 n).getD 0
theorem qgF{e:Nat→Int}{n:Nat}(h:q2c e n=0)(i:Nat)(hi:i<n):e i=0:=by
 unfold q2c at h
 cases hs:q2a (qf9 e) 0 n with
 | none=>exact qr2 hs i hi
 | some x=>rw[hs] at h;exact absurd h (qj6 hs)
theorem qfL{e:Nat→Int}{n:Nat}(h:∀i,i<n→e i=0):q2c e n=0:=by
 unfold q2c
 rw[qaB (g:=fun _=>none) (fun j _ hj=>by unfold qf9;rw[if_pos (h j (by omega))]),qlf];rfl
theorem qai{S:List PV→TR}(st:Nat→List PV)(e:Nat→Int)(caps fin:List PV)(n:Nat)(hn:n<9223372036854775808)
  (h:∀i,i<n→(S (st i)).run=if e i=0 then some (0,st (i+1)) else some (2,.i (e i)::caps)) (h3:(S (st n)).run=some (1,fin)) :
  (qw S (st 0)).run=some (if q2c e n=0 then (0,fin) else (1,.i (q2c e n)::caps)):=by
 have key:=qcs st (fun i=>(qf9 e i).map fun x=>(1,PV.i x::caps)) (0,fin) n hn (fun i hi hf=>by
  rw[h i hi];unfold qf9 at hf;split at hf
  ·rename_i h0;rw[if_pos h0]
  ·simp at hf) (fun i r hi hf=>by
  rw[h i hi];unfold qf9 at hf;split at hf
  ·simp at hf
  ·rename_i h0;simp at hf;rw[if_neg h0,←hf]) h3
 rw[key,qjk]
 unfold q2c
 cases hs:q2a (qf9 e) 0 n with
 | none=>simp
 | some x=>simp[qj6 hs]
def qrW(g:Nat→List U)(n:Nat):R:=(List.range n).map g
theorem qlT(g:Nat→List U)(n:Nat):q2g (qrW g n) [g n]=qrW g (n+1):=by simp[q2g,qrW,List.range_succ]
theorem qiZ(g:Nat→List U)(n:Nat):(qrW g n).length=n:=by simp[qrW]
theorem qp9(g:Nat→List U){n i:Nat}(h:i<n)(j:Nat):zZ (qrW g n) (i:Int) j=(g i).getD j (.i 0):=by
 unfold zZ qrW
 simp[List.getD_eq_getElem?_getD,h]
theorem qq4(g:Nat→List U){n i:Nat}(h:i<n)(j:Nat):cI (qrW g n) (i:Int) j=((g i).getD j (.i 0)).toI:=by unfold cI;rw[qp9 g h]
theorem qt4{l:R}{i:Nat}(h:i<l.length):(i:Int)<qh l:=by unfold qh;omega
theorem qtM(l:R):¬((l.length:Int)<qh l):=by unfold qh;omega
theorem q3g(i:Nat):(0:Int)≤(i:Int):=by omega
theorem qsD(a:List U):qh [a]=1:=rfl
end Go.Eng

namespace Go.Eng
def dch(d:Nat):UInt8:=UInt8.ofNat (48+d)
def dv(c:UInt8):Nat:=c.toNat-48
def q8n(s:List UInt8):Prop:=∀c,c∈s→48≤c.toNat∧c.toNat≤57
def val(s:List UInt8):Nat:=s.foldl (fun a c=>10*a+dv c) 0
def tNf:Nat→Nat→List UInt8
 | 0,_=>[]
 | f+1,n=>if n<10 then [dch n] else tNf f (n/10)++[dch (n%10)]
def tN(n:Nat):List UInt8:=tNf (n+1) n
def tI(n:Int):List UInt8:=if n<0 then 45::tN n.natAbs else tN n.natAbs
theorem qds{d:Nat}(h:d<10):(dch d).toNat=48+d:=by
 unfold dch;rw[UInt8.toNat_ofNat'];omega
theorem qta{d:Nat}(h:d<10):dv (dch d)=d:=by unfold dv;rw[qds h];omega
theorem qt3{c:UInt8}(h1:48≤c.toNat)(h2:c.toNat≤57):dch (dv c)=c:=by
 apply UInt8.toNat_inj.1
 rw[qds (by unfold dv;omega)];unfold dv;omega
theorem qnJ(s:List UInt8)(c:UInt8):val (s++[c])=10*val s+dv c:=by simp[val,List.foldl_append]
theorem qfF:∀(t:List UInt8) (a:Nat),t.foldl (fun a c=>10*a+dv c) a=a*10^t.length+val t
 | [],a=>by simp[val]
 | c::t,a=>by
  have h1:=qfF t (10*a+dv c)
  have h2:=qfF t (10*0+dv c)
  have h3:val (c::t)=t.foldl (fun a c=>10*a+dv c) (10*0+dv c):=rfl
  rw[h3,h2,List.foldl_cons,h1,List.length_cons,Nat.pow_succ]
  grind
theorem qjJ(s t:List UInt8):val (s++t)=val s*10^t.length+val t:=by
 have h:val (s++t)=t.foldl (fun a c=>10*a+dv c) (val s):=by simp[val,List.foldl_append]
 rw[h,qfF]
theorem q5W(c:UInt8)(t:List UInt8):val (c::t)=dv c*10^t.length+val t:=by
 have:=qjJ [c] t
 simpa[val] using this
theorem qk6:val []=0:=rfl
theorem qnj(c:UInt8):val [c]=dv c:=by simp[val]
theorem qsn:q8n []:=fun c h=>by cases h
theorem q0L{c:UInt8}{s:List UInt8}:q8n (c::s)↔(48≤c.toNat∧c.toNat≤57)∧q8n s:=by
 unfold q8n;simp
theorem qcR{s t:List UInt8}:q8n (s++t)↔q8n s∧q8n t:=by
 unfold q8n;simp only[List.mem_append]
 exact⟨fun h=>⟨fun c hc=>h c (.inl hc),fun c hc=>h c (.inr hc)⟩,fun h c hc=>hc.elim (h.1 c) (h.2 c)⟩
theorem qum{c:UInt8}(h:48≤c.toNat∧c.toNat≤57):dv c<10:=by unfold dv;omega
theorem q9a:∀{s:List UInt8},q8n s→val s<10^s.length
 | [],_=>by simp[val]
 | c::s,h=>by
  obtain⟨h1,h2⟩:=q0L.1 h
  have ih:=q9a h2
  have hd:=qum h1
  rw[q5W,List.length_cons,Nat.pow_succ]
  have:dv c*10^s.length≤9*10^s.length:=Nat.mul_le_mul_right _ (by omega)
  omega
theorem qnK{d:Nat}(h:d<10):q8n [dch d]:=by
 intro c hc
 simp at hc;subst hc
 rw[qds h];omega
theorem qt7:∀(f g n:Nat),n<f→n<g→tNf f n=tNf g n
 | 0,_,n,h,_=>by omega
 | _,0,n,_,h=>by omega
 | f+1,g+1,n,h1,h2=>by
  unfold tNf
  by_cases h:n<10
  ·rw[if_pos h,if_pos h]
  ·rw[if_neg h,if_neg h,qt7 f g (n/10) (by omega) (by omega)]
theorem qmK{n:Nat}(h:n<10):tN n=[dch n]:=by unfold tN tNf;rw[if_pos h]
theorem qoK{n:Nat}(h:10≤n):tN n=tN (n/10)++[dch (n%10)]:=by
 have:tN n=tNf n (n/10)++[dch (n%10)]:=by
  show tNf (n+1) n=_
  rw[tNf,if_neg (by omega)]
 rw[this,qt7 n (n/10+1) (n/10) (by omega) (by omega)];rfl
theorem qjx(n:Nat):q8n (tN n)∧tN n≠[]∧val (tN n)=n:=by
 induction n using Nat.strongRecOn with
 | _ n ih=>
  by_cases h:n<10
  ·rw[qmK h];exact⟨qnK h,by simp,by rw[qnj,qta h]⟩
  ·rw[qoK (by omega)]
   obtain⟨h1,h2,h3⟩:=ih (n/10) (by omega)
   refine⟨qcR.2 ⟨h1,qnK (by omega)⟩,by simp,?_⟩
   rw[qnJ,h3,qta (by omega)];omega
theorem vX(n:Nat):q8n (tN n):=(qjx n).1
theorem qhs(n:Nat):tN n≠[]:=(qjx n).2.1
theorem q2f(n:Nat):val (tN n)=n:=(qjx n).2.2
theorem qhi(n:Nat):0<(tN n).length:=List.length_pos_iff.2 (qhs n)
theorem q7s:∀(k n:Nat),n<10^(k+1)→(tN n).length≤k+1
 | 0,n,h=>by rw[qmK (by simpa using h)];simp
 | k+1,n,h=>by
  by_cases h10:n<10
  ·rw[qmK h10];simp
  ·rw[qoK (by omega),List.length_append]
   have:=q7s k (n/10) (by rw[Nat.pow_succ] at h;omega)
   simp;omega
theorem qkW:∀(k n:Nat),10^k≤n→k<(tN n).length
 | 0,n,_=>qhi n
 | k+1,n,h=>by
  have hp:0<10^k:=Nat.pow_pos (by omega)
  rw[Nat.pow_succ] at h
  rw[qoK (by omega),List.length_append]
  have:=qkW k (n/10) (by omega)
  simp;omega
theorem qd8{k n:Nat}(h:(tN n).length≤k):n<10^k:=by
 have:=q9a (vX n)
 rw[q2f] at this
 exact Nat.lt_of_lt_of_le this (Nat.pow_le_pow_right (by omega) h)
def qvJ(s:List UInt8):Prop:=s.length=1∨s.getD 0 0≠48
theorem qo9{s:List UInt8}(hd:q8n s)(hn:s≠[])(h:s.getD 0 0≠48):10^(s.length-1)≤val s:=by
 cases s with
 | nil=>exact absurd rfl hn
 | cons c s=>
  obtain⟨h1,h2⟩:=q0L.1 hd
  simp at h
  have hc:1≤dv c:=by
   unfold dv
   have:c.toNat≠48:=fun e=>h (UInt8.toNat_inj.1 (by simpa using e))
   omega
  rw[q5W,List.length_cons,Nat.add_sub_cancel]
  have:1*10^s.length≤dv c*10^s.length:=Nat.mul_le_mul_right _ hc
  omega
theorem qtg:∀(n:Nat) {s:List UInt8},s.length=n+1→q8n s→qvJ s→tN (val s)=s
 | 0,s,hl,hd,_=>by
  match s,hl with
  | [c],_=>
   have h1:=(q0L.1 hd).1
   rw[qnj,qmK (qum h1),qt3 h1.1 h1.2]
 | n+1,s,hl,hd,hz=>by
  obtain⟨i,c,rfl⟩:∃i c,s=i++[c]:=⟨s.dropLast,s.getLast (by intro h;simp[h] at hl),(List.dropLast_concat_getLast _).symm⟩
  have hil:i.length=n+1:=by simpa using hl
  obtain⟨h1,h2⟩:=qcR.1 hd
  have hc:=(q0L.1 h2).1
  have hi:i≠[]:=by intro h;simp[h] at hil
  have hz0:i.getD 0 0≠48:=by
   rcases hz with hz|hz
   ·exact absurd (by simpa using hz) hi
   ·cases i with
    | nil=>exact absurd rfl hi
    | cons a i=>simpa using hz
  have hv:1≤val i:=Nat.le_trans (Nat.one_le_pow _ _ (by omega)) (qo9 h1 hi hz0)
  have hd10:=qum hc
  rw[qnJ,qoK (n:=10*val i+dv c) (by omega),show (10*val i+dv c)/10=val i by omega,show (10*val i+dv c)%10=dv c by omega,qt3 hc.1 hc.2,qtg n hil h1 (.inr hz0)]
theorem qno{s:List UInt8}(hd:q8n s)(hn:s≠[])(hz:qvJ s):s=tN (val s):=
 (qtg (s.length-1) (by have:=List.length_pos_iff.2 hn;omega) hd hz).symm
theorem qnI{m n:Nat}(h:tN m=tN n):m=n:=by rw[←q2f m,h,q2f]
theorem qqg(n:Nat):qvJ (tN n):=by
 induction n using Nat.strongRecOn with
 | _ n ih=>
  by_cases h:n<10
  ·rw[qmK h];exact .inl rfl
  ·rw[qoK (by omega)]
   right
   by_cases h2:n/10<10
   ·rw[qmK h2]
    intro e
    have:(dch (n/10)).toNat=48:=by
     have e':dch (n/10)=48:=by simpa using e
     rw[e'];rfl
    rw[qds h2] at this;omega
   ·have h3:(tN (n/10)).length≠1:=by
     have:=qkW 1 (n/10) (by omega);omega
    rcases ih (n/10) (by omega) with h4|h4
    ·exact absurd h4 h3
    ·cases hq:tN (n/10) with
     | nil=>exact absurd hq (qhs _)
     | cons a i=>rw[hq] at h4;simpa using h4
theorem qua(t:List UInt8):slt [] t=!t.isEmpty:=by cases t<;>rfl
theorem qsS(a b:UInt8)(s t:List UInt8):slt (a::s) (b::t)=(decide (a<b)||(a==b&&slt s t)):=by
 unfold slt
 simp only[Op.bytesLess]
theorem qm5:∀{s t:List UInt8},q8n s→q8n t→s.length=t.length→((slt s t=true)=(val s<val t))
 | [],[],_,_,_=>by simp[qua,qk6]
 | a::s,b::t,h1,h2,hl=>by
  obtain⟨ha,hs⟩:=q0L.1 h1
  obtain⟨hb,ht⟩:=q0L.1 h2
  have hl':s.length=t.length:=by simpa using hl
  have ih:=qm5 hs ht hl'
  have v1:=q9a hs
  have v2:=q9a ht
  rw[qsS,q5W,q5W,hl']
  rw[hl'] at v1
  have hab:(a<b)=(dv a<dv b):=by
   unfold dv;rw[UInt8.lt_iff_toNat_lt];simp only[eq_iff_iff];omega
  have hab2:(a=b)=(dv a=dv b):=by
   unfold dv;rw[←UInt8.toNat_inj];simp only[eq_iff_iff];omega
  simp only[Bool.or_eq_true,decide_eq_true_eq,Bool.and_eq_true,beq_iff_eq,eq_iff_iff,ih,hab,hab2]
  generalize 10^t.length=p at *
  generalize dv a=x at *
  generalize dv b=y at *
  constructor
  ·rintro (h|⟨rfl,h⟩)
   ·have:=Nat.mul_le_mul_right p (show x+1≤y by omega)
    rw[Nat.add_mul] at this;omega
   ·omega
  ·intro h
   rcases Nat.lt_trichotomy x y with h3|h3|h3
   ·exact .inl h3
   ·subst h3;exact .inr ⟨rfl,by omega⟩
   ·have:=Nat.mul_le_mul_right p (show y+1≤x by omega)
    rw[Nat.add_mul] at this;omega
theorem q7X{m n:Nat}(h:m≤n):(tN m).length≤(tN n).length:=by
 rcases Nat.lt_or_ge (tN n).length (tN m).length with h1|h1
 ·have h2:=qd8 (Nat.le_refl (tN n).length)
  have h3:0<(tN n).length:=qhi n
  have:=q7s ((tN n).length-1) m (by rw[Nat.sub_add_cancel h3];omega)
  omega
 ·exact h1
theorem qq1(m n:Nat):((tN m).length<(tN n).length∨(tN m).length=(tN n).length∧slt (tN m) (tN n)=true)↔m<n:=by
 constructor
 ·rintro (h|⟨h1,h2⟩)
  ·rcases Nat.lt_or_ge m n with h3|h3
   ·exact h3
   ·have:=q7X h3;omega
  ·rw[qm5 (vX m) (vX n) h1,q2f,q2f] at h2;exact h2
 ·intro h
  have h1:=q7X (Nat.le_of_lt h)
  rcases Nat.lt_or_ge (tN m).length (tN n).length with h3|h3
  ·exact .inl h3
  ·have h4:(tN m).length=(tN n).length:=by omega
   exact .inr ⟨h4,by rw[qm5 (vX m) (vX n) h4,q2f,q2f];exact h⟩
theorem qsb(s:List UInt8):val (48::s)=val s:=by rw[q5W];simp[dv]
theorem qrA(n:Nat)(s:List UInt8):val (List.replicate n 48++s)=val s:=by
 induction n with
 | zero=>rfl
 | succ n ih=>rw[List.replicate_succ,List.cons_append,qsb,ih]
theorem qpg(n:Nat):q8n (List.replicate n 48):=by
 intro c hc
 rw[(List.mem_replicate.1 hc).2];decide
def rI(l:List Int):R:=l.map fun v=>[.i v]
theorem qvM(l:List Int)(i:Int):cI (rI l) i 0=l.getD i.toNat 0:=by
 unfold cI zZ rI
 simp only[List.getD_eq_getElem?_getD,List.getElem?_map]
 cases l[i.toNat]?<;>rfl
theorem qpv(x v:U):qkA [x] 0 [v]=[v]:=rfl
theorem qv7(l:List Int)(i v:Int):q91 (rI l) i 0 [.i v]=rI (l.set i.toNat v):=by
 unfold q91 rI
 apply List.ext_getElem?
 intro j
 by_cases hj:j=i.toNat
 ·subst hj
  by_cases hl:i.toNat<l.length
  ·simp[hl,List.getD_eq_getElem?_getD,qpv]
  ·rw[List.getElem?_eq_none (by simp;omega),List.getElem?_eq_none (by simp;omega)]
 ·rw[List.getElem?_set_ne (Ne.symm hj),List.getElem?_map,List.getElem?_map,List.getElem?_set_ne (Ne.symm hj)]
theorem qjb(n v:Int):q2s n [.i v]=rI (List.replicate n.toNat v):=by simp[q2s,rI]
theorem qtX{s:List UInt8}{i:Nat}(h:i<s.length):sat s (i:Int)=(s[i].toNat:Int):=by
 unfold sat
 simp[List.getD_eq_getElem?_getD,h]
theorem vP(s t:List UInt8):(seq s t=true)=(s=t):=by simp[seq]
theorem quT{x:Int}(h:0≤x∧x≤255):uO .u8 x=x:=by
 unfold uO IntKind.wrap
 simp[IntKind.signed,IntKind.bits];omega
theorem qsU(a b:Nat):q5v (a:Int) (b:Int)=((a%b:Nat):Int):=by
 unfold q5v;rw[Int.tmod_eq_emod_of_nonneg (by omega)];rfl
theorem q4f{S:List PV→TR}(I:Nat→List PV→Prop)(Q:Nat→List PV→Prop){n:Nat}(hn:n<9223372036854775808)
  (h:∀k ps,k≤n→I k ps→(∃k' qs,k'<k∧(S ps).run=some (0,qs)∧I k' qs)∨∃j qs,(S ps).run=some (j+1,qs)∧Q j qs) {ps:List PV} (h0:I n ps):∃j qs,(qw S ps).run=some (j,qs)∧Q j qs:=by
 have key:∀m k ps,k≤n→k<m→I k ps→∃j qs,(qcK S m ps).run=some (j,qs)∧Q j qs:=by
  intro m
  induction m with
  | zero=>intro k ps _ h;omega
  | succ m ih=>
   intro k ps hk hm hI
   rcases h k ps hk hI with⟨k',qs,h1,h2,h3⟩|⟨j,qs,h1,h2⟩
   ·obtain⟨j,rs,g1,g2⟩:=ih k' qs (by omega) (by omega) h3
    exact⟨j,rs,by rw[qav h2];exact g1,g2⟩
   ·exact⟨j,qs,q3o h1,h2⟩
 exact key q9j n ps (Nat.le_refl _) (Nat.lt_trans hn (by unfold q9j;decide)) h0
end Go.Eng

namespace Go.Eng
theorem q8w{m:Int}(h:m<0):tI m=45::tN m.natAbs:=by unfold tI;rw[if_pos h]
theorem qcI{m:Int}(h:¬m<0):tI m=tN m.natAbs:=by unfold tI;rw[if_neg h]
theorem qa1(n:Nat):tI (n:Int)=tN n:=by rw[qcI (by omega)];rfl
theorem qaz{s:List UInt8}(hd:q8n s)(hn:s≠[]):∃c t,s=c::t∧48≤c.toNat∧c.toNat≤57:=by
 cases s with
 | nil=>exact absurd rfl hn
 | cons c t=>exact⟨c,t,rfl,(q0L.1 hd).1⟩
theorem qtf(m:Int):(tI m).length≤(tN m.natAbs).length+1:=by unfold tI;split<;>simp
theorem qkD(m:Int):0<(tI m).length:=by
 have:=qhi m.natAbs
 unfold tI;split<;>simp<;>omega
theorem qoe{m n:Int}(h:tI m=tI n):m=n:=by
 have key:∀{m n:Int},m<0→¬n<0→tI m≠tI n:=by
  intro m n h1 h2 e
  rw[q8w h1,qcI h2] at e
  obtain⟨c,t,hc,h3,h4⟩:=qaz (vX n.natAbs) (qhs _)
  rw[hc] at e
  have:=(List.cons.inj e).1
  rw[←this] at h3
  exact absurd h3 (by decide)
 by_cases h1:m<0<;>by_cases h2:n<0
 ·rw[q8w h1,q8w h2] at h
  have:=qnI (List.cons.inj h).2
  omega
 ·exact absurd h (key h1 h2)
 ·exact absurd h.symm (key h2 h1)
 ·rw[qcI h1,qcI h2] at h
  have:=qnI h
  omega
theorem qt8(m:Int):(sat (tI m) 0=45)=(m<0):=by
 by_cases h:m<0
 ·rw[q8w h];simp[sat,h]
 ·rw[qcI h]
  obtain⟨c,t,hc,h3,h4⟩:=qaz (vX m.natAbs) (qhs _)
  rw[hc]
  simp[sat,h];omega
theorem qr1{s:List UInt8}(h:q8n s)(i:Nat):q8n (s.take i):=fun c hc=>h c (List.mem_of_mem_take hc)
theorem qrC{s:List UInt8}(h:q8n s)(i:Nat):q8n (s.drop i):=fun c hc=>h c (List.mem_of_mem_drop hc)
theorem qt0{d:Int}(h0:0≤d)(h:d<10):quC [[.i (uO .u8 (ql .i64 48 d))]]=[dch d.toNat]:=by
 rw[vC (by omega),quT (by omega)]
 show [UInt8.ofNat (48+d).toNat]=[UInt8.ofNat (48+d.toNat)]
 rw[show (48+d).toNat=48+d.toNat by omega]
theorem of_le{a:Nat}{r:List UInt8}(ha:a<10)(hr:r.length≤1000):zt (quC [[(.i (uO .u8 (ql .i64 48 (a:Int))))]])+zt r≤140737488355328:=by
 rw[qt0 (by omega) (by omega)]
 show (1:Int)+(r.length:Int)≤_;omega
end Go.Eng

namespace Go.Eng
theorem qop(a b:Nat):qdt (a:Int) (b:Int)=((max a b:Nat):Int):=by unfold qdt;split<;>omega
theorem qtJ(m n:Nat):(tN (m+n)).length≤max (tN m).length (tN n).length+1:=by
 have h1:=q9a (vX m)
 have h2:=q9a (vX n)
 rw[q2f] at h1 h2
 have p1:10^(tN m).length≤10^(max (tN m).length (tN n).length):=Nat.pow_le_pow_right (by omega) (by omega)
 have p2:10^(tN n).length≤10^(max (tN m).length (tN n).length):=Nat.pow_le_pow_right (by omega) (by omega)
 exact q7s _ _ (by rw[Nat.pow_succ];omega)
theorem qmn(m n:Nat):(tN (m*n)).length≤(tN m).length+(tN n).length:=by
 have h1:=q9a (vX m)
 have h2:=q9a (vX n)
 rw[q2f] at h1 h2
 have h3:=qhi m
 have h4:=qhi n
 have:m*n<10^((tN m).length+(tN n).length):=by
  rw[Nat.pow_add]
  exact Nat.mul_lt_mul'' h1 h2
 have:=q7s ((tN m).length+(tN n).length-1) (m*n) (by rwa [show (tN m).length+(tN n).length-1+1=(tN m).length+(tN n).length by omega])
 omega
def nl(m:Int):Nat:=(tN m.natAbs).length
theorem qgg(m:Int):0<nl m:=qhi _
theorem qqp(m:Int):nl (-m)=nl m:=by unfold nl;rw[Int.natAbs_neg]
theorem qov(m n:Int):nl (m+n)≤max (nl m) (nl n)+1:=by
 unfold nl
 exact Nat.le_trans (q7X (Int.natAbs_add_le m n)) (qtJ _ _)
theorem q1l(m n:Int):nl (m*n)≤nl m+nl n:=by
 unfold nl;rw[Int.natAbs_mul];exact qmn _ _
theorem quH{m:Int}{k:Nat}(h:nl m≤k):m.natAbs<10^k:=qd8 h
def sgn(n:Int):Int:=if n<0 then -1 else if n=0 then 0 else 1
end Go.Eng

namespace Go.Eng
theorem vY{l:List Int}{j:Nat}(h:j<l.length):l.getD j 0=l[j]:=by simp[List.getD_eq_getElem?_getD,h]
end Go.Eng

namespace Go.Eng
theorem qoL(m:Int){n:Int}(hn:n≠0):n*m.tdiv n+q5v m n=m∧(q5v m n).natAbs<n.natAbs∧(0≤m→0≤q5v m n)∧(m≤0→q5v m n≤0):=by
 unfold q5v
 refine⟨Int.mul_tdiv_add_tmod m n,?_,fun h=>Int.tmod_nonneg n h,fun h=>?_⟩
 ·rw[Int.natAbs_tmod]
  exact Nat.mod_lt _ (by omega)
 ·have:=Int.tmod_nonneg n (show 0≤-m by omega)
  rw[Int.neg_tmod] at this
  omega
end Go.Eng

namespace Go.Eng
theorem qpH{n t:Int}(hn:n≠0)(h:-9223372036854775808≤t∧t≤9223372036854775807):jI .i64 (n*t) n=t:=by
 unfold jI
 rw[Int.mul_tdiv_cancel_left _ hn]
 unfold IntKind.wrap
 simp[IntKind.signed,IntKind.bits];omega
theorem qv4:tI 1=[49]:=rfl
end Go.Eng

namespace Go.Eng
def eM(a b:Nat):Nat:=if b=0 then 0 else Nat.log2 (a*b)+1+if a<b then 1 else 0
theorem qrD{m n:Nat}(h:m≤n):Nat.log2 m≤Nat.log2 n:=by
 by_cases hm:m=0
 ·subst hm;simp
 ·rcases Nat.lt_or_ge (Nat.log2 n) (Nat.log2 m) with h1|h1
  ·have:=(Nat.log2_lt (show n≠0 by omega)).1 h1
   have h2:=Nat.log2_self_le hm
   omega
  ·exact h1
theorem que{a b:Nat}(hb:b≠0):eM b (a%b)<eM a b:=by
 have hlt:=Nat.mod_lt a (show 0<b by omega)
 unfold eM
 rw[if_neg hb]
 by_cases hr:a%b=0
 ·rw[if_pos hr];omega
 ·rw[if_neg hr,if_neg (show ¬b<a%b by omega)]
  by_cases hab:a<b
  ·rw[if_pos hab,Nat.mod_eq_of_lt hab,Nat.mul_comm b a];omega
  ·rw[if_neg hab]
   have hd:=Nat.div_add_mod a b
   have hq:1≤a/b:=(Nat.le_div_iff_mul_le (by omega)).2 (by omega)
   have h1:b*1≤b*(a/b):=Nat.mul_le_mul_left _ hq
   have h2:2*(b*(a%b))≤a*b:=by
    have:2*(a%b)≤a:=by omega
    have:=Nat.mul_le_mul_right b this
    rw[Nat.mul_assoc,Nat.mul_comm (a%b) b] at this
    exact this
   have h3:=qrD h2
   have h4:Nat.log2 (2*(b*(a%b)))=Nat.log2 (b*(a%b))+1:=by
    apply Nat.log2_two_mul
    exact Nat.mul_ne_zero hb hr
   omega
theorem qpW{x k j:Nat}(h:(tN x).length≤k)(hj:4*k=j):x<2^j:=by
 have h3:x<10^k:=qd8 h
 have h4:(10:Nat)^k≤16^k:=Nat.pow_le_pow_left (by omega) _
 have h5:(16:Nat)^k=2^j:=by rw[show (16:Nat)=2^4 from rfl,←Nat.pow_mul,hj]
 rw[h5] at h4
 exact Nat.lt_of_lt_of_le h3 h4
theorem qsM{a b:Nat}(ha:(tN a).length≤400000)(hb:(tN b).length≤400000):eM a b<9223372036854775808:=by
 unfold eM
 have h1:=qmn a b
 by_cases h0:a*b=0
 ·rw[h0];simp;split<;>(try split)<;>omega
 ·obtain⟨j,hj⟩:∃j,j=3200000:=⟨_,rfl⟩
  have h2:a*b<2^j:=qpW (k:=800000) (by omega) (by omega)
  have:=(Nat.log2_lt h0).2 h2
  split<;>(try split)<;>omega
def mag(s:List UInt8):List UInt8:=if s.getD 0 0=45 then s.drop 1 else s
theorem qlt(m:Int):mag (tI m)=tN m.natAbs:=by
 unfold mag
 by_cases h:m<0
 ·rw[q8w h];simp
 ·rw[qcI h]
  obtain⟨c,t,e,h1,h2⟩:=qaz (vX m.natAbs) (qhs _)
  rw[e]
  simp only[List.getD_cons_zero]
  rw[if_neg]
  intro hc;subst hc;revert h1;decide
theorem qr7(s:List UInt8):(∃m:Int,s=tI m)↔mag s≠[]∧q8n (mag s)∧((mag s).getD 0 0=48→s.length=1):=by
 constructor
 ·rintro ⟨m,rfl⟩
  rw[qlt]
  refine⟨qhs _,vX _,fun h=>?_⟩
  rcases qqg m.natAbs with h1|h1
  ·have h2:=qjx m.natAbs
   have hv:m.natAbs=0:=by
    obtain⟨c,e⟩:∃c,tN m.natAbs=[c]:=List.length_eq_one_iff.1 h1
    rw[e] at h
    simp at h
    have:=q2f m.natAbs
    rw[e,h] at this
    simpa[val,dv] using this.symm
   have hm0:m=0:=by omega
   rw[hm0];rfl
  ·exact absurd h h1
 ·rintro ⟨h1,h2,h3⟩
  by_cases h45:s.getD 0 0=45
  ·have hm:mag s=s.drop 1:=by unfold mag;rw[if_pos h45]
   obtain⟨c,t,rfl⟩:∃c t,s=c::t:=by
    cases s with
    | nil=>simp at h45
    | cons c t=>exact⟨c,t,rfl⟩
   simp at h45
   subst h45
   rw[hm] at h1 h2 h3
   simp only[List.drop_succ_cons,List.drop_zero] at h1 h2 h3
   have h4:t.getD 0 0≠48:=fun h=>by
    have:=h3 h
    simp at this
    exact h1 this
   have hv:=qo9 h2 h1 h4
   have hp:0<10^(t.length-1):=Nat.pow_pos (by omega)
   refine⟨-((val t:Nat):Int),?_⟩
   rw[q8w (by omega)]
   simp only[Int.natAbs_neg,Int.natAbs_natCast]
   rw[←qno h2 h1 (.inr h4)]
  ·have hm:mag s=s:=by unfold mag;rw[if_neg h45]
   rw[hm] at h1 h2 h3
   refine⟨((val s:Nat):Int),?_⟩
   rw[qa1]
   refine qno h2 h1 ?_
   by_cases h4:s.getD 0 0=48
   ·exact .inl (h3 h4)
   ·exact .inr h4
open Classical in
noncomputable def qnC(s:List UInt8):Int:=if ∃m:Int,s=tI m then (if (mag s).length≤1024 then 0 else 11) else 3
end Go.Eng

namespace Go.Eng
def tQ(q:Rat):List UInt8:=if q.den=1 then tI q.num else tI q.num++47::tN q.den
def dl(n:Nat):Nat:=(tN n).length
def qn(q:Rat):Nat:=nl q.num
def qd(q:Rat):Nat:=dl q.den
theorem qrS{s:List UInt8}(h:q8n s):∀c,c∈s→c≠47:=fun c hc e=>by
 have:=h c hc
 rw[e] at this
 revert this;decide
theorem qhP(m:Int):∀c,c∈tI m→c≠47:=by
 intro c hc
 unfold tI at hc
 split at hc
 ·rcases List.mem_cons.1 hc with rfl|hc
  ·decide
  ·exact qrS (vX _) c hc
 ·exact qrS (vX _) c hc
theorem qnP:∀{s s' t t':List UInt8},(∀c,c∈s→c≠47)→(∀c,c∈s'→c≠47)→s++47::t=s'++47::t'→s=s'∧t=t'
 | [],[],t,t',_,_,h=>⟨rfl,by simpa using h⟩
 | [],c::s',t,t',_,h2,h=>by
  simp only[List.nil_append,List.cons_append,List.cons.injEq] at h
  exact absurd h.1.symm (h2 c List.mem_cons_self)
 | c::s,[],t,t',h1,_,h=>by
  simp only[List.nil_append,List.cons_append,List.cons.injEq] at h
  exact absurd h.1 (h1 c List.mem_cons_self)
 | c::s,c'::s',t,t',h1,h2,h=>by
  simp only[List.cons_append,List.cons.injEq] at h
  obtain⟨e1,e2⟩:=qnP (fun c hc=>h1 c (List.mem_cons_of_mem _ hc)) (fun c hc=>h2 c (List.mem_cons_of_mem _ hc)) h.2
  exact⟨by rw[h.1,e1],e2⟩
theorem q5J{q:Rat}(h:q.den=1):tQ q=tI q.num:=by unfold tQ;rw[if_pos h]
theorem q2B{q:Rat}(h:q.den≠1):tQ q=tI q.num++47::tN q.den:=by unfold tQ;rw[if_neg h]
theorem qvv{a b:Rat}(h:tQ a=tQ b):a=b:=by
 by_cases ha:a.den=1<;>by_cases hb:b.den=1
 ·rw[q5J ha,q5J hb] at h
  exact Rat.ext (qoe h) (ha.trans hb.symm)
 ·rw[q5J ha,q2B hb] at h
  exact absurd rfl (qhP a.num 47 (by rw[h];simp))
 ·rw[q2B ha,q5J hb] at h
  exact absurd rfl (qhP b.num 47 (by rw[←h];simp))
 ·rw[q2B ha,q2B hb] at h
  obtain⟨e1,e2⟩:=qnP (qhP _) (qhP _) h
  exact Rat.ext (qoe e1) (qnI e2)
theorem qps(a b:Rat):(tQ a=tQ b)=(a=b):=propext ⟨qvv,fun h=>by rw[h]⟩
theorem qrM(m:Int):tQ (m:Rat)=tI m:=q5J (by simp)
theorem qsB(n:Nat):tQ (OfNat.ofNat n:Rat)=tN n:=by
 rw[q5J (by simp)]
 simp only[Rat.num_ofNat]
 exact qa1 n
theorem qa3{m n:Int}(h:m.natAbs≤n.natAbs):nl m≤nl n:=q7X h
theorem qqZ{m n:Nat}(h:m≤n):dl m≤dl n:=q7X h
theorem qqd(n:Nat):nl (n:Int)=dl n:=rfl
theorem qqD(m n:Nat):dl (m*n)≤dl m+dl n:=qmn m n
theorem qqk(m n:Int):nl (m-n)≤max (nl m) (nl n)+1:=by
 rw[Int.sub_eq_add_neg]
 have:=qov m (-n)
 rwa [qqp] at this
theorem q5R(N:Int)(D:Nat):nl (mkRat N D).num≤nl N∧dl (mkRat N D).den≤dl D:=by
 rw[Rat.num_mkRat,Rat.den_mkRat]
 by_cases h:D=0
 ·rw[if_pos h,if_pos h,h]
  exact⟨qa3 (by simp),by decide⟩
 ·rw[if_neg h,if_neg h]
  exact⟨qa3 (Int.natAbs_ediv_le_natAbs _ _),qqZ (Nat.div_le_self _ _)⟩
theorem qth(a b:Rat):qn (a*b)≤qn a+qn b:=by
 unfold qn
 rw[Rat.mul_def']
 exact Nat.le_trans (q5R _ _).1 (q1l _ _)
theorem qtw(a b:Rat):qd (a*b)≤qd a+qd b:=by
 unfold qd
 rw[Rat.mul_def']
 exact Nat.le_trans (q5R _ _).2 (qqD _ _)
theorem quI(a b:Rat):qn (a+b)≤max (qn a+qd b) (qn b+qd a)+1:=by
 unfold qn qd
 rw[Rat.add_def']
 have h1:=(q5R (a.num*b.den+b.num*a.den) (a.den*b.den)).1
 have h2:=qov (a.num*b.den) (b.num*a.den)
 have h3:=q1l a.num b.den
 have h4:=q1l b.num a.den
 rw[qqd] at h3 h4
 omega
theorem qv2(a b:Rat):qd (a+b)≤qd a+qd b:=by
 unfold qd
 rw[Rat.add_def']
 exact Nat.le_trans (q5R _ _).2 (qqD _ _)
theorem quX(a b:Rat):qn (a-b)≤max (qn a+qd b) (qn b+qd a)+1:=by
 unfold qn qd
 rw[Rat.sub_def']
 have h1:=(q5R (a.num*b.den-b.num*a.den) (a.den*b.den)).1
 have h2:=qqk (a.num*b.den) (b.num*a.den)
 have h3:=q1l a.num b.den
 have h4:=q1l b.num a.den
 rw[qqd] at h3 h4
 omega
theorem qvB(a b:Rat):qd (a-b)≤qd a+qd b:=by
 unfold qd
 rw[Rat.sub_def']
 exact Nat.le_trans (q5R _ _).2 (qqD _ _)
theorem quY(a:Rat):qn (-a)=qn a:=by unfold qn;rw[Rat.neg_num,qqp]
theorem qhq(a:Rat):0<qn a:=qgg _
theorem qob(a:Rat):0<qd a:=qhi _
theorem qvd{a:Rat}(h:a≠0):qn a⁻¹≤qd a:=by
 unfold qn qd
 rw[Rat.num_inv,←qqd]
 apply qa3
 rw[Int.natAbs_mul,Int.natAbs_sign_of_ne_zero (by rwa [Ne,Rat.num_eq_zero])]
 simp
theorem qvl{a:Rat}(h:a≠0):qd a⁻¹≤qn a:=by
 unfold qn qd
 rw[Rat.den_inv,if_neg (by rwa [Rat.num_eq_zero])]
 exact Nat.le_refl _
theorem qvA(a:Rat){b:Rat}(h:b≠0):qn (a/b)≤qn a+qd b:=by
 rw[Rat.div_def]
 exact Nat.le_trans (qth _ _) (Nat.add_le_add_left (qvd h) _)
theorem quM(a:Rat){b:Rat}(h:b≠0):qd (a/b)≤qd a+qn b:=by
 rw[Rat.div_def]
 exact Nat.le_trans (qtw _ _) (Nat.add_le_add_left (qvl h) _)
def sgq(q:Rat):Int:=sgn q.num
theorem q7I{m k:Int}(hk:0<k):sgn (m*k)=sgn m:=by
 unfold sgn
 rcases Int.lt_trichotomy m 0 with h|h|h
 ·have:=Int.mul_neg_of_neg_of_pos h hk
  rw[if_pos h,if_pos this]
 ·subst h;simp
 ·have:=Int.mul_pos h hk
  rw[if_neg (by omega),if_neg (by omega),if_neg (by omega),if_neg (by omega)]
theorem qup(m:Int):sgn (-m)=-sgn m:=by
 unfold sgn
 rcases Int.lt_trichotomy m 0 with h|h|h
 ·rw[if_pos h,if_neg (by omega),if_neg (by omega)];rfl
 ·subst h;rfl
 ·rw[if_pos (by omega),if_neg (by omega),if_neg (by omega)]
theorem qmi{q:Rat}(h:0<q):sgq q=1:=by
 unfold sgq sgn
 have h1:0≤q.num:=Rat.num_nonneg.2 (Rat.le_of_lt h)
 have h2:q.num≠0:=fun e=>by rw[Rat.num_eq_zero] at e;rw[e] at h;exact Rat.lt_irrefl h
 rw[if_neg (by omega),if_neg h2]
theorem qpY(q:Rat):sgq (-q)=-sgq q:=by unfold sgq;rw[Rat.neg_num,qup]
theorem qtb{q:Rat}(h:q<0):sgq q=-1:=by
 have h1:0 < -q:=by grind
 have:=qmi h1
 rw[qpY] at this
 omega
theorem q71(q:Rat):(q<0∧sgq q=-1)∨(q=0∧sgq q=0)∨(0<q∧sgq q=1):=by
 by_cases h1:q<0
 ·exact .inl ⟨h1,qtb h1⟩
 ·by_cases h2:q=0
  ·exact .inr (.inl ⟨h2,by rw[h2];rfl⟩)
  ·exact .inr (.inr ⟨by grind,qmi (by grind)⟩)
theorem qew(q:Rat):(sgq q≤0)=(q≤0):=by
 rcases q71 q with⟨h,e⟩|⟨h,e⟩|⟨h,e⟩<;>rw[e]<;>simp<;>grind
end Go.Eng

namespace Go.Eng
def sP(s:List UInt8):Nat:=s.findIdx (·==47)
def spn(s:List UInt8):List UInt8:=s.take (sP s)
def spd(s:List UInt8):List UInt8:=if sP s<s.length then s.drop (sP s+1) else [49]
theorem qu8(s:List UInt8):sP s≤s.length:=List.findIdx_le_length
theorem qvm{s:List UInt8}{i:Nat}(h:i<s.length)(h1:s[i]=47)(h2:∀j (hj:j<i),s[j]≠47):sP s=i:=by
 unfold sP
 rw[List.findIdx_eq h]
 exact⟨by simp[h1],fun j hj=>by simp[h2 j hj]⟩
theorem qmU{s:List UInt8}(h:∀c,c∈s→c≠47):sP s=s.length:=by
 unfold sP
 rw[List.findIdx_eq_length]
 intro x hx
 simpa using h x hx
theorem qrE{s t:List UInt8}(h:∀c,c∈s→c≠47):sP (s++47::t)=s.length:=by
 apply qvm (by simp)
 ·simp
 ·intro j hj
  rw[List.getElem_append_left hj]
  exact h _ (List.getElem_mem hj)
theorem qts(q:Rat):spn (tQ q)=tI q.num:=by
 unfold spn
 by_cases h:q.den=1
 ·rw[q5J h,qmU (qhP _),List.take_length]
 ·rw[q2B h,qrE (qhP _)];simp
theorem qtn(q:Rat):spd (tQ q)=tN q.den:=by
 unfold spd
 by_cases h:q.den=1
 ·rw[q5J h,qmU (qhP _),if_neg (Nat.lt_irrefl _),h];rfl
 ·rw[q2B h,qrE (qhP _),if_pos (by simp)];simp
theorem qvb(q:Rat):(tQ q).length≤qn q+qd q+2:=by
 have h1:=qtf q.num
 unfold qn qd nl dl
 by_cases h:q.den=1
 ·rw[q5J h];omega
 ·rw[q2B h];simp;omega
theorem qay(n:Nat):(tN n=[49])=(n=1):=by
 have:tN 1=[49]:=rfl
 rw[←this];exact propext ⟨fun h=>qnI h,fun h=>by rw[h]⟩
theorem qsT(a:Rat):(0:Int)<(a.den:Int):=by have:=a.den_nz;omega
def qaR(a b c:Rat):Int:=if 0≤sgq a*(sgq b*sgq c) then (if sgq a=0 then sgq b*sgq c else sgq a) else sgq a*sgq (a*a-b*b*c)
theorem qra(q:Rat):-1≤sgq q∧sgq q≤1:=by rcases q71 q with⟨_,e⟩|⟨_,e⟩|⟨_,e⟩<;>rw[e]<;>decide
theorem qvN{x y:Int}(hx:-1≤x∧x≤1)(hy:-1≤y∧y≤1):-1≤x*y∧x*y≤1:=by
 have:=qtG (A:=1) (B:=1) hx.1 hx.2 hy.1 hy.2
 omega
theorem qeb{x y:Int}(hx:-1≤x∧x≤1)(hy:-1≤y∧y≤1):yW .i64 x y=x*y:=q3z (by have:=qvN hx hy;omega)
end Go.Eng

namespace Go.Eng
def mv:List Int→Int
 | []=>0
 | x::l=>x+1000000000*mv l
def pB(n:Nat):Int:=1000000000^n
theorem q28:pB 0=1:=rfl
theorem q4Z(n:Nat):pB (n+1)=pB n*1000000000:=Int.pow_succ _ _
theorem q5V:∀n,0<pB n
 | 0=>by decide
 | n+1=>by rw[q4Z];have:=q5V n;omega
theorem qv8(m n:Nat):pB (m+n)=pB m*pB n:=Int.pow_add _ _ _
theorem q6K{m n:Nat}(h:m≤n):pB m≤pB n:=by
 obtain⟨k,rfl⟩:∃k,n=m+k:=⟨n-m,by omega⟩
 induction k with
 | zero=>simp
 | succ k ih=>
  have h1:=ih (by omega)
  rw[show m+(k+1)=(m+k)+1 by omega,q4Z]
  have:=q5V (m+k)
  omega
def dgs(l:List Int):Prop:=∀x,x∈l→0≤x∧x<1000000000
theorem qnE:∀(l:List Int) (j:Nat) (h:j<l.length) (y:Int),mv (l.set j y)=mv l+(y-l[j])*pB j
 | [],j,h,_=>by simp at h
 | x::l,0,_,y=>by simp only[List.set_cons_zero,mv,List.getElem_cons_zero,q28];omega
 | x::l,j+1,h,y=>by
  have ih:=qnE l j (by simpa using h) y
  simp only[List.set_cons_succ,mv,List.getElem_cons_succ,q4Z]
  rw[ih]
  grind
theorem qpa:∀(l:List Int) (n:Nat),dgs l→(∀i,n≤i→l.getD i 0=0)→0≤mv l∧mv l<pB n
 | [],n,_,_=>⟨Int.le_refl _,q5V n⟩
 | x::l,0,hd,hz=>by
  have ih:=qpa l 0 (fun y hy=>hd y (List.mem_cons_of_mem _ hy)) (fun i _=>by have:=hz (i+1) (by omega);simpa using this)
  have hx:x=0:=by simpa using hz 0 (by omega)
  rw[q28] at ih ⊢
  simp only[mv];omega
 | x::l,n+1,hd,hz=>by
  have ih:=qpa l n (fun y hy=>hd y (List.mem_cons_of_mem _ hy)) (fun i hi=>by have:=hz (i+1) (by omega);simpa using this)
  have hx:=hd x List.mem_cons_self
  rw[q4Z]
  simp only[mv]
  generalize pB n=p at *
  omega
theorem quG:∀(l:List Int) (j:Nat) (h:j<l.length),dgs l→l[j]≠0→pB j≤mv l
 | [],j,h,_,_=>by simp at h
 | x::l,0,_,hd,hx=>by
  have h1:=hd x List.mem_cons_self
  have h2:=(qpa l l.length (fun y hy=>hd y (List.mem_cons_of_mem _ hy)) (fun i hi=>by simp[List.getD_eq_getElem?_getD,hi])).1
  simp only[List.getElem_cons_zero] at hx
  simp only[mv,q28];omega
 | x::l,j+1,h,hd,hx=>by
  have ih:=quG l j (by simpa using h) (fun y hy=>hd y (List.mem_cons_of_mem _ hy)) (by simpa using hx)
  have h1:=hd x List.mem_cons_self
  rw[q4Z]
  simp only[mv];omega
theorem qnT:∀(s t:List Int),mv (s++t)=mv s+pB s.length*mv t
 | [],t=>by simp[mv,q28]
 | x::s,t=>by
  simp only[List.cons_append,mv,List.length_cons,q4Z]
  rw[qnT s t];grind
theorem q7V(n:Nat):mv (List.replicate n 0)=0:=by
 induction n with
 | zero=>rfl
 | succ n ih=>simp[List.replicate_succ,mv,ih]
theorem q6s{l:List Int}{i:Nat}(h:i<l.length):mv (l.drop i)=l[i]+1000000000*mv (l.drop (i+1)):=by
 rw[List.drop_eq_getElem_cons h];rfl
theorem we{l:List Int}{n i:Nat}(hd:dgs l)(hz:∀i,n≤i→l.getD i 0=0)(hi:n≤i):mv (l.drop i)=0:=by
 have:=qpa (l.drop i) 0 (fun x hx=>hd x (List.mem_of_mem_drop hx)) (fun j _=>by
  have:=hz (i+j) (by omega)
  simpa[List.getD_eq_getElem?_getD] using this)
 rw[q28] at this
 omega
structure WOK (n:Nat) (l:List Int):Prop where
 len:l.length=232
 le:n≤232
 dig:dgs l
 z:∀i,n≤i→l.getD i 0=0
def nrm(n:Nat)(l:List Int):Prop:=n=0∨l.getD (n-1) 0≠0
theorem WOK.bd{n:Nat}{l:List Int}(h:WOK n l):0≤mv l∧mv l<pB n:=qpa l n h.dig h.z
theorem WOK.lo{n:Nat}{l:List Int}(h:WOK n l)(hn:nrm n l)(h0:n≠0):pB (n-1)≤mv l:=by
 have h1:=h.le
 have h2:=h.len
 rcases hn with hn|hn
 ·exact absurd hn h0
 ·refine quG l (n-1) (by omega) h.dig ?_
  rwa [vY (by omega)] at hn
theorem qkY(N i:Nat):(List.replicate N (0:Int)).getD i 0=0:=by
 rw[List.getD_eq_getElem?_getD,List.getElem?_replicate];split<;>rfl
theorem qri(N:Nat):dgs (List.replicate N 0):=fun x hx=>by
 have:=(List.mem_replicate.1 hx).2
 omega
theorem WOK.zero:WOK 0 (List.replicate 232 0):=
 ⟨List.length_replicate,by omega,qri 232,fun i _=>qkY 232 i⟩
theorem WOK.get{n:Nat}{l:List Int}(h:WOK n l)(i:Nat):0≤l.getD i 0∧l.getD i 0<1000000000:=by
 rcases Nat.lt_or_ge i l.length with hi|hi
 ·rw[vY hi];exact h.dig _ (List.getElem_mem hi)
 ·simp[List.getD_eq_getElem?_getD,hi]
theorem WOK.setW{n:Nat}{l:List Int}(h:WOK n l){j:Nat}{y:Int}(hj:j<232)(hy:0≤y∧y<1000000000):WOK (max n (j+1)) (l.set j y):=by
 have h1:=h.le
 refine⟨by simp[h.len],by omega,fun x hx=>?_,fun i hi=>?_⟩
 ·rcases List.mem_or_eq_of_mem_set hx with hx|rfl
  ·exact h.dig x hx
  ·exact hy
 ·have:=h.z i (by omega)
  rw[List.getD_eq_getElem?_getD,List.getElem?_set_ne (by omega),←List.getD_eq_getElem?_getD]
  exact this
theorem q1q(l:List Int)(i:Nat):cI (rI l) (i:Int) 0=l.getD i 0:=by rw[qvM,Int.toNat_natCast]
theorem qc0(l:List Int)(i:Nat)(v:Int):q91 (rI l) (i:Int) 0 [.i v]=rI (l.set i v):=by rw[qv7,Int.toNat_natCast]
theorem qcm{n:Nat}{l:List Int}(h:WOK n l)(b:Bool):∃m,(qm [.b b,.i (n:Int),.r (rI l)]).run=some (0,[.b b,.i ((m:Nat):Int),.r (rI l)])∧WOK m l∧nrm m l:=by
 rw[q9T]
 have h232:=h.le
 obtain⟨j,qs,h1,rfl,m,rfl,h3,h4⟩:=q4f (S:=wN) (fun k ps=>ps=[.b b,.i (k:Int),.r (rI l)]∧WOK k l)
  (fun j qs=>j=0∧∃m:Nat,qs=[.b b,.i (m:Int),.r (rI l)]∧WOK m l∧nrm m l) (n:=n) (by omega) (fun k ps hk ⟨hps,hw⟩=>by
  subst hps
  rw[q85]
  have hk2:=hw.le
  by_cases h0:k=0
  ·right
   refine⟨0,_,?_,rfl,k,rfl,hw,.inl h0⟩
   simp only[STD,h0]
   rfl
  ·have hs:qE .i64 (k:Int) 1=((k-1:Nat):Int):=by rw[yE (by omega)];omega
   have a1:(0:Int)<(k:Int):=by omega
   have a2:(0:Int)≤((k-1:Nat):Int)∧((k-1:Nat):Int)<232:=by omega
   by_cases hz:l.getD (k-1) 0=0
   ·left
    refine⟨k-1,[.b b,.i ((k-1:Nat):Int),.r (rI l)],by omega,?_,rfl,hw.len,by omega,hw.dig,fun i hi=>?_⟩
    ·simp only[STD,a1,hs,a2,q1q,hz,and_self]
    ·rcases Nat.eq_or_lt_of_le hi with e|e
     ·rw[←e];exact hz
     ·exact hw.z i (by omega)
   ·right
    refine⟨0,[.b b,.i (k:Int),.r (rI l)],?_,rfl,k,rfl,hw,.inr hz⟩
    simp only[STD,a1,hs,a2,q1q,hz,and_self]) (ps:=[.b b,.i (n:Int),.r (rI l)]) ⟨rfl,h⟩
 exact⟨m,by simp only[STD,h1],h3,h4⟩
theorem quD(s:Int):∃q r:Int,s.tdiv 1000000000=q∧s=q*1000000000+r∧(0≤s→0≤r)∧(s≤0→r≤0)∧-1000000000<r∧r<1000000000:=by
 obtain⟨h1,h2,h3,h4⟩:=qoL s (show (1000000000:Int)≠0 by decide)
 refine⟨_,q5v s 1000000000,rfl,by omega,h3,h4,by omega,by omega⟩
theorem qoB{f up rest:Int}{i n j:Nat}{l ly:List Int}{bx b2:Bool}{ny:Nat}{S:Int}(hj:((j:Nat):Int)=ql .i64 (i:Int) up)(hj2:j<232)(hw:WOK n l)(hin:i<233)
  (hS:S=if i<ny then l.getD j 0+rest+f*ly.getD i 0 else l.getD j 0+rest) (hr:-1000000000≤rest∧rest≤1000000000) (hfy:-999999999999999999≤f*ly.getD i 0∧f*ly.getD i 0≤999999999999999999) (hny:ny≤232)
  (hgo:i<ny∨rest≠0) :
  ∃q s:Int,S=q*1000000000+s∧0≤s∧s<1000000000 ∧
   (wB [.i f,.i up,.i rest,.i (i:Int),.b bx,.i (n:Int),.r (rI l),.b b2,.i (ny:Int),.r (rI ly)]).run=some (0,[.i f,.i up,.i q,.i ((i+1:Nat):Int),.b bx,.i ((max n (j+1):Nat):Int),.r (rI (l.set j s)),.b b2,.i (ny:Int),.r (rI ly)]):=by
 have hg:=hw.get j
 obtain⟨q,r,e1,e2,e3,e4,e5,e6⟩:=quD S
 have hSb:-1000000000999999999≤S∧S≤1000000001999999998:=by rw[hS];split<;>omega
 have w1:jI .i64 S 1000000000=q:=by
  unfold jI
  rw[e1]
  unfold IntKind.wrap
  simp[IntKind.signed,IntKind.bits];omega
 have w2:yW .i64 q 1000000000=q*1000000000:=q3z (by omega)
 have w3:qE .i64 S (q*1000000000)=r:=by rw[yE (by omega)];omega
 have w4:ql .i64 (l.getD j 0) rest=l.getD j 0+rest:=vC (by omega)
 have w5:ql .i64 (i:Int) 1=((i+1:Nat):Int):=by rw[vC (by omega)];omega
 have w6:ql .i64 (j:Int) 1=((j+1:Nat):Int):=by rw[vC (by omega)];omega
 have w7:qdt (n:Int) ((j+1:Nat):Int)=((max n (j+1):Nat):Int):=qop _ _
 have a1:(0:Int)≤(j:Int)∧(j:Int)<232:=by omega
 have hw8:r<0→ql .i64 r 1000000000=r+1000000000:=fun _=>vC (by omega)
 have hw9:r<0→qE .i64 q 1=q-1:=fun _=>yE (by omega)
 rw[q3i]
 by_cases hi:i<ny
 ·rw[if_pos hi] at hS
  have a2:(i:Int)<(ny:Int):=by omega
  have a3:(0:Int)≤(i:Int)∧(i:Int)<232:=by omega
  have w10:yW .i64 f (ly.getD i 0)=f*ly.getD i 0:=q3z (by omega)
  have w11:ql .i64 (l.getD j 0+rest) (f*ly.getD i 0)=S:=by rw[vC (by omega),hS]
  by_cases hneg:r<0
  ·refine⟨q-1,r+1000000000,by omega,by omega,by omega,?_⟩
   simp only[STD,a2,←hj,a1,a3,q1q,w4,w10,w11,w1,w2,w3,hneg,hw8 hneg,hw9 hneg,w5,w6,w7,qc0,and_self]
  ·refine⟨q,r,by omega,by omega,by omega,?_⟩
   simp only[STD,a2,←hj,a1,a3,q1q,w4,w10,w11,w1,w2,w3,hneg,w5,w6,w7,qc0,and_self]
 ·rw[if_neg hi] at hS
  have hr0:rest≠0:=hgo.resolve_left hi
  have a2:¬(i:Int)<(ny:Int):=by omega
  rw[←hS] at w4
  by_cases hneg:r<0
  ·refine⟨q-1,r+1000000000,by omega,by omega,by omega,?_⟩
   simp only[STD,a2,hr0,←hj,a1,q1q,w4,w1,w2,w3,hneg,hw8 hneg,hw9 hneg,w5,w6,w7,qc0,and_self]
  ·refine⟨q,r,by omega,by omega,by omega,?_⟩
   simp only[STD,a2,hr0,←hj,a1,q1q,w4,w1,w2,w3,hneg,w5,w6,w7,qc0,and_self]
theorem qhp{f:Int}{up nx ny:Nat}{lx ly:List Int}(hx:WOK nx lx)(hy:WOK ny ly)(hf:-999999999≤f∧f≤999999999)(hup:ny+up≤232){T:Int}(hT:T=mv lx+f*mv ly*pB up)(h0:0≤T)(h1:T<pB 232)(bx b2:Bool) :
  ∃(n:Nat) (l:List Int),(qx [.i f,.i (up:Int),.b bx,.i (nx:Int),.r (rI lx),.b b2,.i (ny:Int),.r (rI ly)]).run=some (0,[.b bx,.i (n:Int),.r (rI l),.b b2,.i (ny:Int),.r (rI ly)])∧WOK n l∧nrm n l∧mv l=T:=by
 rw[qby]
 have hny:=hy.le
 obtain⟨j,qs,g1,rfl,n,l,rfl,g3,g4⟩:=q4f (S:=wB) (fun k ps=>∃(i n:Nat) (rest:Int) (l:List Int),ps=[.i f,.i (up:Int),.i rest,.i (i:Int),.b bx,.i (n:Int),.r (rI l),.b b2,.i (ny:Int),.r (rI ly)] ∧
   i+k=300∧i≤232∧WOK n l∧-1000000000≤rest∧rest≤1000000000∧mv l+rest*pB (i+up)+f*mv (ly.drop i)*pB (i+up)=T)
  (fun j qs=>j=0∧∃(n:Nat) (l:List Int),qs=[.b bx,.i (n:Int),.r (rI l),.b b2,.i (ny:Int),.r (rI ly)]∧WOK n l∧mv l=T) (n:=300) (by omega) (fun k ps hk ⟨i,n,rest,l,hps,hik,hi,hw,hr1,hr2,hv⟩=>by
  subst hps
  have hg:=hy.get i
  have hfy:=qtG (A:=999999999) (B:=999999999) hf.1 hf.2 (show -(999999999:Int)≤ly.getD i 0 by omega) (show ly.getD i 0≤999999999 by omega)
  have hbd:=hw.bd
  have hn232:=hw.le
  by_cases hgo:i<ny∨rest≠0
  ·left
   have hj:i+up<232:=by
    rcases Nat.lt_or_ge i ny with h|h
    ·omega
    ·rcases Nat.lt_or_ge (i+up) 232 with h2|h2
     ·exact h2
     ·exfalso
      have hr0:=hgo.resolve_left (by omega)
      rw[we hy.dig hy.z h] at hv
      have hP:=q6K h2
      have hlt:=q6K hn232
      simp only[Int.mul_zero,Int.zero_mul,Int.add_zero] at hv
      generalize pB (i+up)=P at *
      rcases Int.lt_or_lt_of_ne hr0 with h3|h3
      ·have:rest*P≤-1*P:=Int.mul_le_mul_of_nonneg_right (by omega) (by have:=q5V 232;omega)
       omega
      ·have:1*P≤rest*P:=Int.mul_le_mul_of_nonneg_right (by omega) (by have:=q5V 232;omega)
       omega
   have hjw:(((i+up:Nat)):Int)=ql .i64 (i:Int) (up:Int):=by rw[vC (by omega)];omega
   obtain⟨q,s,s1,s2,s3,s4⟩:=qoB (bx:=bx) (b2:=b2) (f:=f) (ly:=ly) hjw hj hw (by omega) rfl ⟨hr1,hr2⟩ (by omega) hny hgo
   refine⟨k-1,_,by omega,s4,i+1,_,q,_,rfl,by omega,by omega,hw.setW hj ⟨s2,s3⟩,?_,?_,?_⟩
   ·have hgl:=hw.get (i+up)
    split at s1<;>omega
   ·have hgl:=hw.get (i+up)
    split at s1<;>omega
   ·have hjl:i+up<l.length:=by rw[hw.len];exact hj
    rw[qnE l (i+up) hjl,←hv,show i+1+up=(i+up)+1 by omega,q4Z]
    rw[vY hjl] at s1
    have hil:i<ly.length:=by rw[hy.len];omega
    rw[q6s hil]
    rw[vY hil] at s1
    generalize pB (i+up)=P at *
    generalize l[i+up]=d at *
    by_cases hiny:i<ny
    ·rw[if_pos hiny] at s1
     generalize ly[i]=y at *
     generalize mv (ly.drop (i+1))=m at *
     grind
    ·rw[if_neg hiny] at s1
     have z1:ly[i]=0:=by rw[←vY hil];exact hy.z i (by omega)
     rw[z1,we hy.dig hy.z (show ny≤i+1 by omega)]
     grind
  ·right
   have c1:¬i<ny:=fun h=>hgo (.inl h)
   have c2:rest=0:=Decidable.byContradiction fun h=>hgo (.inr h)
   refine⟨0,[.b bx,.i (n:Int),.r (rI l),.b b2,.i (ny:Int),.r (rI ly)],?_,rfl,n,l,rfl,hw,?_⟩
   ·rw[q3i]
    have a2:¬(i:Int)<(ny:Int):=by omega
    simp only[STD,a2,c2]
   ·rw[we hy.dig hy.z (by omega),c2] at hv
    simp only[Int.mul_zero,Int.zero_mul,Int.add_zero] at hv
    exact hv) (ps:=[.i f,.i (up:Int),.i 0,.i 0,.b bx,.i (nx:Int),.r (rI lx),.b b2,.i (ny:Int),.r (rI ly)])
  ⟨0,nx,0,lx,rfl,by omega,by omega,hx,by omega,by omega,by simp[hT]⟩
 obtain⟨m,t1,t2,t3⟩:=qcm g3 bx
 exact⟨m,l,by simp only[STD,g1,t1],t2,t3,g4⟩
end Go.Eng

namespace Go.Eng
theorem q68(l:List Int)(j:Nat)(h:j≤l.length):mv l=mv (l.take j)+pB j*mv (l.drop j):=by
 have:=qnT (l.take j) (l.drop j)
 rw[List.take_append_drop,List.length_take,Nat.min_eq_left h] at this
 exact this
theorem qsG{l:List Int}(h:dgs l)(j:Nat):dgs (l.take j):=fun x hx=>h x (List.mem_of_mem_take hx)
theorem q4G{l:List Int}(h:dgs l)(j:Nat):0≤mv (l.take j)∧mv (l.take j)<pB j:=
 qpa (l.take j) j (qsG h j) fun i hi=>by
  rw[List.getD_eq_getElem?_getD,List.getElem?_eq_none (by simp;omega)];rfl
theorem qf5{l:List Int}{i:Nat}(h:i<l.length):mv (l.take (i+1))=mv (l.take i)+l[i]*pB i:=by
 rw[List.take_succ_eq_append_getElem h,qnT,List.length_take,Nat.min_eq_left (by omega)]
 simp only[mv]
 grind
theorem WOK.mono{n m:Nat}{l:List Int}(h:WOK n l)(hm:n≤m)(h2:m≤232):WOK m l:=⟨h.len,h2,h.dig,fun i hi=>h.z i (by omega)⟩
theorem qd6{n:Nat}{l:List Int}(h:WOK n l)(hn:nrm n l):(n=0)=(mv l=0):=by
 apply propext
 constructor
 ·intro h0
  have:=h.bd
  rw[h0,q28] at this;omega
 ·intro h0
  rcases Nat.eq_zero_or_pos n with h1|h1
  ·exact h1
  ·have:=h.lo hn (by omega)
   have:=q5V (n-1)
   omega
theorem qvU{n m:Nat}{l k:List Int}(h:WOK n l)(hn:nrm n l)(h2:WOK m k)(hle:mv l≤mv k):n≤m:=by
 rcases Nat.lt_or_ge m n with h3|h3
 ·exfalso
  have h4:=h.lo hn (by omega)
  have h5:=h2.bd.2
  have h6:=q6K (show m≤n-1 by omega)
  omega
 ·exact h3
theorem qok{nx ny:Nat}{lx ly:List Int}(hx:WOK nx lx)(hnx:nrm nx lx)(hy:WOK ny ly)(hny:nrm ny ly)(bx b2:Bool) :
  ∃r:Int,(z6 [.b bx,.i (nx:Int),.r (rI lx),.b b2,.i (ny:Int),.r (rI ly)]).run=some (0,[.i r,.b bx,.i (nx:Int),.r (rI lx),.b b2,.i (ny:Int),.r (rI ly)])∧((0≤r)=(mv ly≤mv lx)):=by
 rw[qaM]
 have h1:=hx.le
 have h2:=hy.le
 by_cases hne:nx=ny
 ·subst hne
  have hs:qE .i64 (nx:Int) 1=(nx:Int)-1:=yE (by omega)
  obtain⟨j,qs,g1,g2⟩:=q4f (S:=vo) (fun k ps=>ps=[.i ((k:Int)-1),.b bx,.i (nx:Int),.r (rI lx),.b b2,.i (nx:Int),.r (rI ly)]∧k≤nx∧mv (lx.drop k)=mv (ly.drop k))
   (fun j qs=>(j=0∧qs=[.b bx,.i (nx:Int),.r (rI lx),.b b2,.i (nx:Int),.r (rI ly)]∧mv lx=mv ly)∨(j=1∧∃r:Int,qs=[.i r,.b bx,.i (nx:Int),.r (rI lx),.b b2,.i (nx:Int),.r (rI ly)]∧((0≤r)=(mv ly≤mv lx)))) (n:=nx) (by omega) (fun k ps hk ⟨hps,hkn,hd⟩=>by
   subst hps
   rw[q8V]
   by_cases h0:k=0
   ·right
    refine⟨0,_,?_,.inl ⟨rfl,rfl,?_⟩⟩
    ·have a:¬(0:Int)≤(k:Int)-1:=by omega
     simp only[STD,a]
    ·rw[h0] at hd;simpa using hd
   ·obtain⟨i,rfl⟩:∃i,k=i+1:=⟨k-1,by omega⟩
    have e:(((i+1:Nat):Int)-1)=(i:Int):=by omega
    rw[e]
    have a1:(0:Int)≤(i:Int):=by omega
    have a2:(i:Int)<232:=by omega
    have gx:=hx.get i
    have gy:=hy.get i
    have hxl:i<lx.length:=by rw[hx.len];omega
    have hyl:i<ly.length:=by rw[hy.len];omega
    by_cases hc:lx.getD i 0=ly.getD i 0
    ·left
     refine⟨i,[.i ((i:Int)-1),.b bx,.i (nx:Int),.r (rI lx),.b b2,.i (nx:Int),.r (rI ly)],by omega,?_,rfl,by omega,?_⟩
     ·have w:qE .i64 (i:Int) 1=(i:Int)-1:=yE (by omega)
      simp only[STD,a1,a2,and_self,q1q,hc,w]
     ·rw[q6s hxl,q6s hyl,hd]
      rw[vY hxl,vY hyl] at hc
      rw[hc]
    ·right
     have w:qE .i64 (lx.getD i 0) (ly.getD i 0)=lx.getD i 0-ly.getD i 0:=yE (by omega)
     refine⟨1,[.i (lx.getD i 0-ly.getD i 0),.b bx,.i (nx:Int),.r (rI lx),.b b2,.i (nx:Int),.r (rI ly)],?_,.inr ⟨rfl,_,rfl,?_⟩⟩
     ·simp only[STD,a1,a2,and_self,q1q,hc,w]
     ·have sx:=q68 lx i (by omega)
      have sy:=q68 ly i (by omega)
      rw[q6s hxl] at sx
      rw[q6s hyl] at sy
      have tx:=q4G hx.dig i
      have ty:=q4G hy.dig i
      rw[vY hxl,vY hyl] at hc ⊢
      rw[hd] at sx
      have hp:=q5V i
      generalize pB i=P at *
      generalize lx[i]=u at *
      generalize ly[i]=v at *
      generalize mv (ly.drop (i+1))=w at *
      have e1:P*(u+1000000000*w)=P*u+P*(1000000000*w):=Int.mul_add _ _ _
      have e2:P*(v+1000000000*w)=P*v+P*(1000000000*w):=Int.mul_add _ _ _
      have e3:P*(u-v)=P*u-P*v:=Int.mul_sub _ _ _
      apply propext
      rcases Int.lt_or_lt_of_ne (show u-v≠0 by omega) with h|h
      ·have:P*(u-v)≤P*(-1):=Int.mul_le_mul_of_nonneg_left (by omega) (by omega)
       constructor
       ·intro;omega
       ·intro;omega
      ·have:P*1≤P*(u-v):=Int.mul_le_mul_of_nonneg_left (by omega) (by omega)
       constructor
       ·intro;omega
       ·intro;omega) (ps:=[.i ((nx:Int)-1),.b bx,.i (nx:Int),.r (rI lx),.b b2,.i (nx:Int),.r (rI ly)])
   ⟨rfl,Nat.le_refl _,by rw[we hx.dig hx.z (Nat.le_refl _),we hy.dig hy.z (Nat.le_refl _)]⟩
  rcases g2 with⟨rfl,rfl,g2⟩|⟨rfl,r,rfl,g2⟩
  ·refine⟨0,?_,?_⟩
   ·simp only[STD,hs,g1,wI g1]
   ·apply propext;simp;omega
  ·refine⟨r,?_,g2⟩
   simp only[STD,hs,g1,wI g1,show ¬(1=0) by omega]
 ·have hs:qE .i64 (nx:Int) (ny:Int)=(nx:Int)-(ny:Int):=yE (by omega)
  refine⟨(nx:Int)-(ny:Int),?_,?_⟩
  ·have a:¬(nx:Int)=(ny:Int):=by omega
   simp only[STD,a,hs]
  ·apply propext
   have b1:=hx.bd
   have b2:=hy.bd
   rcases Nat.lt_or_gt_of_ne hne with h|h
   ·have:=hy.lo hny (by omega)
    have:=q6K (show nx≤ny-1 by omega)
    constructor
    ·intro;omega
    ·intro;omega
   ·have:=hx.lo hnx (by omega)
    have:=q6K (show ny≤nx-1 by omega)
    constructor
    ·intro;omega
    ·intro;omega
def sv(b:Bool)(l:List Int):Int:=if b then -mv l else mv l
theorem qt5{nx ny:Nat}{lx ly:List Int}(hx:WOK nx lx)(hnx:nrm nx lx)(hy:WOK ny ly)(hny:nrm ny ly)(hb:mv lx+mv ly<pB 232)(bx b2:Bool) :
  ∃(b:Bool) (n:Nat) (l:List Int),(zv [.b bx,.i (nx:Int),.r (rI lx),.b b2,.i (ny:Int),.r (rI ly)]).run=some (0,[.b b,.i (n:Int),.r (rI l),.b b2,.i (ny:Int),.r (rI ly)])∧WOK n l∧nrm n l∧sv b l=sv bx lx+sv b2 ly:=by
 rw[qd1]
 have h1:=hx.bd
 have h2:=hy.bd
 have l1:=hx.le
 have l2:=hy.le
 by_cases hs:bx=b2
 ·subst hs
  obtain⟨n,l,g1,g2,g3,g4⟩:=qhp (f:=1) (up:=0) hx hy (by omega) (by omega) (T:=mv lx+mv ly) (by rw[q28];omega) (by omega) hb bx bx
  refine⟨bx,n,l,?_,g2,g3,?_⟩
  ·simp only[STD,show ((0:Nat):Int)=0 from rfl] at g1 ⊢
   simp only[STD,g1]
  ·unfold sv;rw[g4];cases bx<;>simp<;>omega
 ·obtain⟨r,r1,r2⟩:=qok hx hnx hy hny bx b2
  by_cases hr:mv ly≤mv lx
  ·have hr':0≤r:=by rw[r2];exact hr
   obtain⟨n,l,g1,g2,g3,g4⟩:=qhp (f:=-1) (up:=0) hx hy (by omega) (by omega) (T:=mv lx-mv ly) (by rw[q28];omega) (by omega) (by omega) bx b2
   refine⟨bx,n,l,?_,g2,g3,?_⟩
   ·simp only[show ((0:Nat):Int)=0 from rfl] at g1
    simp only[STD,hs,r1,hr',g1]
   ·unfold sv;rw[g4];cases bx<;>cases b2<;>simp_all<;>omega
  ·have hr':¬0≤r:=by rw[r2];exact hr
   obtain⟨n,l,g1,g2,g3,g4⟩:=qhp (f:=-1) (up:=0) hy hx (by omega) (by omega) (T:=mv ly-mv lx) (by rw[q28];omega) (by omega) (by omega) b2 bx
   refine⟨b2,n,l,?_,g2,g3,?_⟩
   ·simp only[show ((0:Nat):Int)=0 from rfl] at g1
    simp only[STD,hs,r1,hr',g1]
   ·unfold sv;rw[g4];cases bx<;>cases b2<;>simp_all<;>omega
theorem qqK{x y:Int}{m n:Nat}(h0:0≤x)(h1:x<pB m)(h2:0≤y)(h3:y≤pB n):x*y<pB (m+n)∨y=0:=by
 rcases Int.lt_or_eq_of_le h2 with h|h
 ·left
  rw[qv8]
  have e1:x*y<pB m*y:=Int.mul_lt_mul_of_pos_right h1 h
  have e2:pB m*y≤pB m*pB n:=Int.mul_le_mul_of_nonneg_left h3 (by omega)
  omega
 ·exact .inr h.symm
theorem qug{nx ny:Nat}{lx ly:List Int}(hx:WOK nx lx)(hy:WOK ny ly)(hb:nx+ny≤232)(bx b2:Bool) :
  ∃(n:Nat) (l:List Int),(jG [.b bx,.i (nx:Int),.r (rI lx),.b b2,.i (ny:Int),.r (rI ly)]).run=some (0,[.b bx,.i (nx:Int),.r (rI lx),.b b2,.i (ny:Int),.r (rI ly),.b (!(Go.Eng.beq bx b2)),.i (n:Int),.r (rI l)])∧WOK n l∧nrm n l∧mv l=mv lx*mv ly:=by
 rw[qbU]
 have hbx:=hx.bd
 have e0:q2s 232 [.i 0]=rI (List.replicate 232 0):=qjb 232 0
 obtain⟨j,qs,g1,rfl,n,l,rfl,g2,g3,g4⟩:=q4f (S:=vJ) (fun k ps=>∃(i n:Nat) (l:List Int),ps=[.i (ny:Int),.i (i:Int),.b bx,.i (nx:Int),.r (rI lx),.b b2,.i (ny:Int),.r (rI ly),.b (!(Go.Eng.beq bx b2)),.i (n:Int),.r (rI l)] ∧
   i+k=ny∧WOK n l∧nrm n l∧mv l=mv lx*mv (ly.take i))
  (fun j qs=>j=0∧∃(n:Nat) (l:List Int),qs=[.b bx,.i (nx:Int),.r (rI lx),.b b2,.i (ny:Int),.r (rI ly),.b (!(Go.Eng.beq bx b2)),.i (n:Int),.r (rI l)]∧WOK n l∧nrm n l∧mv l=mv lx*mv ly) (n:=ny) (by omega) (fun k ps hk ⟨i,n,l,hps,hik,hw,hn,hv⟩=>by
  subst hps
  rw[q9B]
  by_cases hi:i<ny
  ·left
   have hil:i<ly.length:=by rw[hy.len];omega
   have gy:=hy.get i
   have tb:=q4G hy.dig i
   have tb2:=q4G hy.dig (i+1)
   have hT:mv lx*mv (ly.take (i+1))=mv l+ly.getD i 0*mv lx*pB i:=by
    rw[qf5 hil,hv,vY hil];grind
   have hlt:mv lx*mv (ly.take (i+1))<pB 232:=by
    rcases qqK (n:=i+1) hbx.1 hbx.2 tb2.1 (by omega) with h|h
    ·exact Int.lt_of_lt_of_le h (q6K (by omega))
    ·rw[h,Int.mul_zero];exact q5V _
   obtain⟨n',l',c1,c2,c3,c4⟩:=qhp (f:=ly.getD i 0) (up:=i) hw hx (by omega) (by omega) hT (Int.mul_nonneg hbx.1 tb2.1) hlt (!(Go.Eng.beq bx b2)) bx
   have w:ql .i64 (i:Int) 1=((i+1:Nat):Int):=by rw[vC (by omega)];omega
   refine⟨k-1,_,by omega,?_,i+1,n',l',rfl,by omega,c2,c3,c4⟩
   have a1:(i:Int)<(ny:Int):=by omega
   have a2:(0:Int)≤(i:Int)∧(i:Int)<232:=by omega
   simp only[STD,a1,a2,and_self,q1q,c1,w]
  ·right
   have hi2:i=ny:=by omega
   have a1:¬(i:Int)<(ny:Int):=by omega
   refine⟨0,[.b bx,.i (nx:Int),.r (rI lx),.b b2,.i (ny:Int),.r (rI ly),.b (!(Go.Eng.beq bx b2)),.i (n:Int),.r (rI l)],?_,rfl,n,l,rfl,hw,hn,?_⟩
   ·simp only[STD,a1]
   ·have:=q68 ly ny (by rw[hy.len];exact hy.le)
    rw[we hy.dig hy.z (Nat.le_refl _),Int.mul_zero,Int.add_zero] at this
    rw[hv,hi2,←this])
  (ps:=[.i (ny:Int),.i 0,.b bx,.i (nx:Int),.r (rI lx),.b b2,.i (ny:Int),.r (rI ly),.b (!(Go.Eng.beq bx b2)),.i 0,.r (rI (List.replicate 232 0))])
  ⟨0,0,_,rfl,by omega,WOK.zero,.inl rfl,by rw[q7V];simp[mv]⟩
 refine⟨n,l,?_,g2,g3,g4⟩
 simp only[e0]
 simp only[STD,g1]
theorem qp1{nx ny:Nat}{lx ly:List Int}(hx:WOK nx lx)(hnx:nrm nx lx)(hy:WOK ny ly)(hny:nrm ny ly)(h0:ny≠0)(hle:mv ly≤mv lx)(hlt:mv lx<pB (ny+1))(hn231:ny≤231)(bx b2:Bool) :
  ∃k:Int,(vF [.b bx,.i (nx:Int),.r (rI lx),.b b2,.i (ny:Int),.r (rI ly)]).run=some (0,[.i k,.b bx,.i (nx:Int),.r (rI lx),.b b2,.i (ny:Int),.r (rI ly)])∧1≤k∧k≤999999999∧k*mv ly≤mv lx:=by
 rw[qeg]
 obtain⟨m,rfl⟩:∃m,ny=m+1:=⟨ny-1,by omega⟩
 have hxl:=hx.len
 have hyl:=hy.len
 have hnx1:m+1≤nx:=qvU hy hny hx hle
 have hnx2:nx≤m+2:=by
  rcases Nat.lt_or_ge (m+2) nx with h|h
  ·exfalso
   have h1:=hx.lo hnx (by omega)
   have h2:=q6K (show m+1+1≤nx-1 by omega)
   omega
  ·exact h
 have gx1:=hx.get m
 have gx2:=hx.get (m+1)
 have gy:=hy.get m
 have sx:=q68 lx m (by omega)
 have sy:=q68 ly m (by omega)
 rw[q6s (show m<lx.length by omega),q6s (show m+1<lx.length by omega),we hx.dig hx.z (show nx≤m+1+1 by omega)] at sx
 rw[q6s (show m<ly.length by omega),we hy.dig hy.z (Nat.le_refl _)] at sy
 have tx:=q4G hx.dig m
 have ty:=q4G hy.dig m
 have hyn:ly.getD m 0≠0:=by
  rcases hny with h|h
  ·omega
  ·simpa using h
 have w1:qE .i64 ((m+1:Nat):Int) 1=(m:Int):=by rw[yE (by omega)];omega
 have c1:¬((m+1:Nat):Int)<0:=by omega
 have c2:¬(nx:Int)≤(m:Int):=by omega
 have c3:¬(m:Int)<0:=by omega
 have c4:¬((m+1:Nat):Int)≤(m:Int):=by omega
 have c5:(0:Int)≤(m:Int)∧(m:Int)<232:=by omega
 have c6:(0:Int)≤((m+1:Nat):Int)∧((m+1:Nat):Int)<232:=by omega
 have gex:lx[m]'(by omega)=lx.getD m 0:=(vY (by omega)).symm
 have gex1:lx[m+1]'(by omega)=lx.getD (m+1) 0:=(vY (by omega)).symm
 have gey:ly[m]'(by omega)=ly.getD m 0:=(vY (by omega)).symm
 rw[gex,gex1] at sx
 rw[gey] at sy
 have hp:=q5V m
 have key:∀a b:Int,a=lx.getD m 0+1000000000*lx.getD (m+1) 0→0<b→mv ly≤b*pB m→∀k,k=a/b→k*mv ly≤mv lx∧q5l k 999999999*mv ly≤mv lx:=by
  intro a b ha hb hbY k hk
  have hk0:0≤k:=by rw[hk];exact Int.ediv_nonneg (by omega) (by omega)
  have hkb:k*b≤a:=by rw[hk];exact Int.ediv_mul_le a (by omega)
  have hY:=(hy.bd).1
  have f1:k*mv ly≤k*(b*pB m):=Int.mul_le_mul_of_nonneg_left hbY hk0
  have f2:k*b*pB m≤a*pB m:=Int.mul_le_mul_of_nonneg_right hkb (by omega)
  have f3:k*(b*pB m)=k*b*pB m:=(Int.mul_assoc _ _ _).symm
  have f4:a*pB m=pB m*(lx.getD m 0+1000000000*(lx.getD (m+1) 0+1000000000*0)):=by rw[ha];grind
  have f5:k*mv ly≤mv lx:=by omega
  refine⟨f5,?_⟩
  have:q5l k 999999999≤k:=by unfold q5l;split<;>omega
  have:=Int.mul_le_mul_of_nonneg_right this hY
  omega
 have wq:∀a b:Int,0≤a→a<1000000000000000000→0<b→jI .i64 a b=a/b:=by
  intro a b h1 h2 h3
  unfold jI
  rw[Int.tdiv_eq_ediv_of_nonneg h1]
  have q1:0≤a/b:=Int.ediv_nonneg h1 (by omega)
  have q2:a/b≤a:=Int.ediv_le_self _ h1
  generalize a/b=q at *
  unfold IntKind.wrap
  simp[IntKind.signed,IntKind.bits];omega
 have fin:∀k:Int,(0<k→k*mv ly≤mv lx∧q5l k 999999999*mv ly≤mv lx)→∃k':Int,(if 0<k then q5l k 999999999 else 1)=k'∧1≤k'∧k'≤999999999∧k'*mv ly≤mv lx:=by
  intro k hk
  by_cases h:0<k
  ·rw[if_pos h]
   refine⟨_,rfl,?_,?_,(hk h).2⟩
   ·unfold q5l;split<;>omega
   ·unfold q5l;split<;>omega
  ·rw[if_neg h];exact⟨1,rfl,by omega,by omega,by omega⟩
 by_cases hcase:nx≤m+1
 ·have c7:(nx:Int)≤((m+1:Nat):Int):=by omega
  have z1:lx.getD (m+1) 0=0:=hx.z _ (by omega)
  have wa:ql .i64 0 (lx.getD m 0)=lx.getD m 0:=by rw[vC (by omega)];omega
  by_cases hm:m=0
  ·subst hm
   have c8:¬(1:Int)<((0+1:Nat):Int):=by omega
   have hq:=wq (lx.getD 0 0) (ly.getD 0 0) (by omega) (by omega) (by omega)
   have hbY:mv ly≤ly.getD 0 0*pB 0:=by rw[q28] at sy ty ⊢;omega
   obtain⟨k',f1,f2,f3,f4⟩:=fin (lx.getD 0 0/ly.getD 0 0) (fun _=>key _ _ (by rw[z1];omega) (by omega) hbY _ rfl)
   refine⟨k',?_,f2,f3,f4⟩
   rw[←f1]
   simp only[STD,c1,w1,c2,c3,c4,c5,c6,c7,c8,and_self,q1q,wa,hyn,hq]
   split<;>rfl
  ·have c8:(1:Int)<((m+1:Nat):Int):=by omega
   have wb:ql .i64 (ly.getD m 0) 1=ly.getD m 0+1:=vC (by omega)
   have hq:=wq (lx.getD m 0) (ly.getD m 0+1) (by omega) (by omega) (by omega)
   have hbY:mv ly≤(ly.getD m 0+1)*pB m:=by
    have:(ly.getD m 0+1)*pB m=pB m*(ly.getD m 0+1000000000*0)+pB m:=by grind
    omega
   obtain⟨k',f1,f2,f3,f4⟩:=fin (lx.getD m 0/(ly.getD m 0+1)) (fun _=>key _ _ (by rw[z1];omega) (by omega) hbY _ rfl)
   refine⟨k',?_,f2,f3,f4⟩
   rw[←f1]
   have hne:¬ly.getD m 0+1=0:=by omega
   simp only[STD,c1,w1,c2,c3,c4,c5,c6,c7,c8,and_self,q1q,wa,wb,hne,hq]
   split<;>rfl
 ·have c7:¬(nx:Int)≤((m+1:Nat):Int):=by omega
  have wm:yW .i64 (lx.getD (m+1) 0) 1000000000=lx.getD (m+1) 0*1000000000:=q3z (by omega)
  have wa:ql .i64 (lx.getD (m+1) 0*1000000000) (lx.getD m 0)=lx.getD (m+1) 0*1000000000+lx.getD m 0:=vC (by omega)
  by_cases hm:m=0
  ·subst hm
   have c8:¬(1:Int)<((0+1:Nat):Int):=by omega
   have hq:=wq (lx.getD (0+1) 0*1000000000+lx.getD 0 0) (ly.getD 0 0) (by omega) (by omega) (by omega)
   have hbY:mv ly≤ly.getD 0 0*pB 0:=by rw[q28] at sy ty ⊢;omega
   obtain⟨k',f1,f2,f3,f4⟩:=fin ((lx.getD (0+1) 0*1000000000+lx.getD 0 0)/ly.getD 0 0) (fun _=>key _ _ (by omega) (by omega) hbY _ rfl)
   refine⟨k',?_,f2,f3,f4⟩
   rw[←f1]
   simp only[STD,c1,w1,c2,c3,c4,c5,c6,c7,c8,and_self,q1q,wm,wa,hyn,hq]
   split<;>rfl
  ·have c8:(1:Int)<((m+1:Nat):Int):=by omega
   have wb:ql .i64 (ly.getD m 0) 1=ly.getD m 0+1:=vC (by omega)
   have hq:=wq (lx.getD (m+1) 0*1000000000+lx.getD m 0) (ly.getD m 0+1) (by omega) (by omega) (by omega)
   have hbY:mv ly≤(ly.getD m 0+1)*pB m:=by
    have:(ly.getD m 0+1)*pB m=pB m*(ly.getD m 0+1000000000*0)+pB m:=by grind
    omega
   obtain⟨k',f1,f2,f3,f4⟩:=fin ((lx.getD (m+1) 0*1000000000+lx.getD m 0)/(ly.getD m 0+1)) (fun _=>key _ _ (by omega) (by omega) hbY _ rfl)
   refine⟨k',?_,f2,f3,f4⟩
   rw[←f1]
   have hne:¬ly.getD m 0+1=0:=by omega
   simp only[STD,c1,w1,c2,c3,c4,c5,c6,c7,c8,and_self,q1q,wm,wa,wb,hne,hq]
   split<;>rfl
end Go.Eng

namespace Go.Eng
theorem qt6(u:Nat):Lib.decDigits u=tN u:=by
 induction u using Nat.strongRecOn with
 | _ u ih=>
  rw[Lib.decDigits]
  split
  ·rename_i h
   rw[qmK h];rfl
  ·rename_i h
   rw[ih (u/10) (by omega)]
   exact(qoK (n:=u) (by omega)).symm
theorem qn5(n:Int):Lib.itoa n=tI n:=by
 unfold Lib.itoa
 by_cases h:n<0
 ·rw[if_pos h,qt6,q8w h]
 ·rw[if_neg h,qt6,qcI h];congr 1;omega
theorem quS(n:Int)(h:-9223372036854775808≤n∧n≤9223372036854775807):(q0K [.i n]).run=some (0,[.s (tI n)]):=by
 show (qqJ [.i n]).run=_
 unfold qqJ
 simp only
 rw[if_pos h,qn5];rfl
theorem qkv{c:UInt8}(h:48≤c.toNat∧c.toNat≤57):Lib.digitVal c=some (dv c):=by
 unfold Lib.digitVal dv
 simp_all
theorem qgE:∀{s:List UInt8} (a:Nat),q8n s→Lib.decFrom a s=some (a*10^s.length+val s)
 | [],a,_=>by simp[Lib.decFrom,val]
 | c::s,a,h=>by
  obtain⟨h1,h2⟩:=q0L.1 h
  rw[Lib.decFrom,qkv h1]
  simp only
  rw[qgE _ h2,q5W,List.length_cons,Nat.pow_succ]
  congr 1
  grind
theorem qiB{s:List UInt8}(h:q8n s)(hn:s≠[]):Lib.decNat s=some (val s):=by
 unfold Lib.decNat
 rw[if_neg (by simpa using hn),qgE 0 h];simp
theorem qlm{s:List UInt8}(h:q8n s)(hn:s≠[]):Lib.atoi s=some (val s:Int):=by
 obtain⟨c,t,e,h1,h2⟩:=qaz h hn
 rw[e] at h ⊢
 have n1:(c==45)=false:=by
  rw[beq_eq_false_iff_ne];intro hc;subst hc;revert h1;decide
 have n2:(c==43)=false:=by
  rw[beq_eq_false_iff_ne];intro hc;subst hc;revert h1;decide
 unfold Lib.atoi
 simp only[n1,n2,Bool.false_eq_true,if_false]
 rw[qiB h (by simp)];rfl
theorem qqT(m:Int):Lib.atoi (tI m)=some m:=by
 by_cases h:m<0
 ·rw[q8w h]
  unfold Lib.atoi
  simp only[beq_self_eq_true,if_true]
  rw[qiB (vX _) (qhs _),q2f]
  simp;omega
 ·rw[qcI h,qlm (vX _) (qhs _),q2f]
  congr 1;omega
theorem qrs{s:List UInt8}{n:Int}(hl:s.length≤18)(h:Lib.atoi s=some n):(wt [.s s]).run=some (0,[.i n]):=by
 show (qqB [.s s]).run=_
 unfold qqB
 simp only
 rw[if_pos hl,h];rfl
theorem qnN:∀s:List UInt8,Lib.indexByte s 47=if sP s<s.length then (sP s:Int) else -1
 | []=>by simp[Lib.indexByte,sP]
 | c::s=>by
  have ih:=qnN s
  have hle:=qu8 s
  unfold Lib.indexByte
  by_cases h:c=47
  ·subst h
   have:sP (47::s)=0:=qvm (by simp) (by simp) (fun j hj=>by omega)
   rw[this];simp
  ·have hc:(c==47)=false:=by simpa using h
   have e:sP (c::s)=sP s+1:=by
    unfold sP
    rw[List.findIdx_cons,hc];rfl
   rw[e]
   generalize sP s=k at *
   have el:(c::s).length=s.length+1:=rfl
   simp only[hc,el,ih,Bool.false_eq_true,if_false]
   grind
theorem quv(s:List UInt8):(wl [.s s,.s [47]]).run=some (0,[.i (if sP s<s.length then (sP s:Int) else -1)]):=by
 show (qkq [.s s,.s [47]]).run=_
 unfold qkq
 simp only
 rw[←qnN];rfl
theorem qnQ:∀{s t:List UInt8},q8n s→q8n t→s.length=t.length→Lib.compareBytes s t=sgn ((val s:Int)-(val t:Int))
 | [],[],_,_,_=>by simp[Lib.compareBytes,val,sgn]
 | [],_::_,_,_,h=>by simp at h
 | _::_,[],_,_,h=>by simp at h
 | a::s,b::t,hs,ht,h=>by
  obtain⟨h1,h2⟩:=q0L.1 hs
  obtain⟨h3,h4⟩:=q0L.1 ht
  have hl:s.length=t.length:=by simpa using h
  have ih:=qnQ h2 h4 hl
  have v1:=q9a h2
  have v2:=q9a h4
  unfold Lib.compareBytes
  rw[q5W,q5W,hl]
  rw[hl] at v1
  have hp:0<10^t.length:=Nat.pow_pos (by omega)
  generalize 10^t.length=P at *
  unfold dv
  by_cases c1:a.toNat<b.toNat
  ·rw[if_pos (show a<b from c1)]
   have:(a.toNat-48+1)*P≤(b.toNat-48)*P:=Nat.mul_le_mul_right _ (by omega)
   rw[Nat.add_mul,Nat.one_mul] at this
   unfold sgn
   rw[if_pos (by omega)]
  ·rw[if_neg (show ¬a<b from c1)]
   by_cases c2:b.toNat<a.toNat
   ·rw[if_pos (show b<a from c2)]
    have:(b.toNat-48+1)*P≤(a.toNat-48)*P:=Nat.mul_le_mul_right _ (by omega)
    rw[Nat.add_mul,Nat.one_mul] at this
    unfold sgn
    rw[if_neg (by omega),if_neg (by omega)]
   ·rw[if_neg (show ¬b<a from c2),ih]
    have:a.toNat=b.toNat:=by omega
    rw[this]
    congr 1;omega
theorem qpt{s t:List UInt8}(hs:q8n s)(ht:q8n t)(h:s.length=t.length):(q06 [.s s,.s t]).run=some (0,[.i (sgn ((val s:Int)-(val t:Int)))]):=by
 show (qfy [.s s,.s t]).run=_
 unfold qfy
 simp only
 rw[qnQ hs ht h];rfl
def qpZ:List UInt8:=[48,49,50,51,52,53,54,55,56,57]
theorem qog(c:UInt8):(qpZ.contains c=true)↔(48≤c.toNat∧c.toNat≤57):=by
 constructor
 ·intro h
  simp only[qpZ,List.contains_eq_mem,List.mem_cons,List.not_mem_nil,or_false,decide_eq_true_eq] at h
  rcases h with rfl|rfl|rfl|rfl|rfl|rfl|rfl|rfl|rfl|rfl<;>decide
 ·rintro ⟨h1,h2⟩
  have hk:∃k,c=UInt8.ofNat k∧48≤k∧k≤57:=⟨c.toNat,by simp,h1,h2⟩
  obtain⟨k,rfl,k1,k2⟩:=hk
  have:k=48∨k=49∨k=50∨k=51∨k=52∨k=53∨k=54∨k=55∨k=56∨k=57:=by omega
  rcases this with rfl|rfl|rfl|rfl|rfl|rfl|rfl|rfl|rfl|rfl<;>decide
theorem q4b{p:UInt8→Bool}:∀{l:List UInt8},l.dropWhile p=[]↔∀x,x∈l→p x=true
 | []=>by simp
 | a::l=>by
  rw[List.dropWhile_cons]
  by_cases h:p a=true
  ·rw[if_pos h,q4b];simp[h]
  ·rw[if_neg h];simp[h]
theorem qaG(s:List UInt8):(Lib.trimS s qpZ=[])=q8n s:=by
 apply propext
 unfold Lib.trimS Lib.trimLeftS Lib.trimRightS
 constructor
 ·intro h
  have h1:∀c,c∈(s.reverse.dropWhile (qpZ.contains ·)).reverse→qpZ.contains c=true:=by
   intro c hc
   have:=q4b.1 h c hc
   simpa using this
  have h2:s.reverse.dropWhile (qpZ.contains ·)=[]:=by
   cases hd:s.reverse.dropWhile (qpZ.contains ·) with
   | nil=>rfl
   | cons c t=>
    exfalso
    have h3:=List.head_dropWhile_not (p:=(qpZ.contains ·)) (l:=s.reverse) (by rw[hd];simp)
    simp only[hd,List.head_cons] at h3
    have:=h1 c (by rw[hd];simp)
    rw[this] at h3;cases h3
  intro c hc
  have:=q4b.1 h2 c (by simpa using hc)
  exact(qog c).1 (by simpa using this)
 ·intro h
  have h2:s.reverse.dropWhile (qpZ.contains ·)=[]:=by
   rw[q4b]
   intro c hc
   exact(qog c).2 (h c (by simpa using hc))
  rw[h2];rfl
theorem qv9(s:List UInt8)(hl:s.length≤9223372036854775807):(q2S [.s s,.s [48,49,50,51,52,53,54,55,56,57]]).run=some (0,[.s (Lib.trimS s qpZ)]):=by
 show (qqo [.s s,.s qpZ]).run=_
 unfold qqo
 simp only
 rw[if_pos ⟨hl,by decide,by decide⟩];rfl
end Go.Eng

namespace Go.Eng
theorem qrH(n:Nat):pB n=((10^(9*n):Nat):Int):=by
 unfold pB
 rw[Nat.pow_mul]
 simp
theorem qoM:∀k:Nat,k≤9→qdF [48,48,48,48,48,48,48,48,48] (k:Int) 9=List.replicate (9-k) 48
 | 0,_=>rfl
 | 1,_=>rfl
 | 2,_=>rfl
 | 3,_=>rfl
 | 4,_=>rfl
 | 5,_=>rfl
 | 6,_=>rfl
 | 7,_=>rfl
 | 8,_=>rfl
 | 9,_=>rfl
 | n+10,h=>by omega
theorem qtL{v:Nat}(h:v<1000000000):q8n (qrg (tN v))∧(qrg (tN v)).length=9∧val (qrg (tN v))=v:=by
 have hl:(tN v).length≤9:=q7s 8 v (by omega)
 have e:qrg (tN v)=List.replicate (9-(tN v).length) 48++tN v:=by
  unfold qrg qlH
  rw[show zt (tN v)=((tN v).length:Int) from rfl,qoM _ hl]
 rw[e]
 refine⟨qcR.2 ⟨qpg _,vX v⟩,by simp;omega,by rw[qrA,q2f]⟩
theorem qid{l:List Int}(hl:l.length=232)(hd:dgs l):∀i:Nat,i≤232→q8n (qcL (rI l) i)∧(qcL (rI l) i).length=9*i∧((val (qcL (rI l) i):Nat):Int)=mv (l.take i)
 | 0,_=>⟨qsn,rfl,by simp[qcL,qk6,mv]⟩
 | i+1,h=>by
  obtain⟨h1,h2,h3⟩:=qid hl hd i (by omega)
  have hil:i<l.length:=by omega
  have hg:=hd _ (List.getElem_mem hil)
  have e:cI (rI l) (i:Int) 0=l[i]:=by rw[q1q,vY hil]
  have e2:Lib.itoa l[i]=tN l[i].toNat:=by rw[qn5,qcI (by omega)];congr 1;omega
  obtain⟨p1,p2,p3⟩:=qtL (v:=l[i].toNat) (by omega)
  unfold qcL
  rw[e,e2]
  refine⟨qcR.2 ⟨p1,h1⟩,by rw[List.length_append,p2,h2];omega,?_⟩
  rw[qjJ,p3,h2,qf5 hil,qrH]
  simp only[Int.natCast_add,Int.natCast_mul,h3]
  rw[Int.toNat_of_nonneg hg.1];omega
theorem qst{n:Nat}{l:List Int}(h:WOK n l)(hn:nrm n l)(b:Bool):qru b (n:Int) (rI l)=tI (sv b l):=by
 unfold qru
 by_cases h0:n=0
 ·have h1:mv l=0:=by rw[←qd6 h hn];exact h0
  rw[if_pos (by omega)]
  unfold sv;rw[h1];cases b<;>rfl
 ·rw[if_neg (by omega)]
  obtain⟨m,rfl⟩:∃m,n=m+1:=⟨n-1,by omega⟩
  have hle:=h.le
  have hml:m<l.length:=by rw[h.len];omega
  have e1:(((m+1:Nat):Int)-1)=(m:Int):=by omega
  rw[e1,Int.toNat_natCast,q1q,vY hml]
  have hg:=h.dig _ (List.getElem_mem hml)
  have e2:Lib.itoa l[m]=tN l[m].toNat:=by rw[qn5,qcI (by omega)];congr 1;omega
  obtain⟨t1,t2,t3⟩:=qid h.len h.dig m (by omega)
  have hnz:l[m]≠0:=by
   rcases hn with hn|hn
   ·omega
   ·rw[Nat.add_sub_cancel,vY hml] at hn;exact hn
  have hlo:=h.lo hn h0
  have hp:=q5V m
  simp only[Nat.add_sub_cancel] at hlo
  have hv:((val (tN l[m].toNat++qcL (rI l) m):Nat):Int)=mv l:=by
   rw[qjJ,q2f,t2,q68 l m (by omega),q6s hml,we h.dig h.z (Nat.le_refl _),qrH]
   simp only[Int.natCast_add,Int.natCast_mul,t3]
   rw[Int.toNat_of_nonneg hg.1]
   grind
  have hT:tN l[m].toNat++qcL (rI l) m=tN (mv l).toNat:=by
   have hd:q8n (tN l[m].toNat++qcL (rI l) m):=qcR.2 ⟨vX _,t1⟩
   have hne:tN l[m].toNat++qcL (rI l) m≠[]:=by simp[qhs]
   have hz:(tN l[m].toNat++qcL (rI l) m).getD 0 0≠48:=by
    have hv0:=q2f l[m].toNat
    have hd0:=vX l[m].toNat
    rcases qqg l[m].toNat with h1|h1
    ·obtain⟨c,e⟩:=List.length_eq_one_iff.1 h1
     rw[e] at hv0 ⊢
     simp only[List.cons_append,List.getD_cons_zero]
     intro hc;subst hc
     rw[qnj] at hv0
     simp[dv] at hv0;omega
    ·obtain⟨c,t,e,_⟩:=qaz hd0 (qhs _)
     rw[e] at h1 ⊢
     simpa using h1
   have:=qno hd hne (.inr hz)
   rw[this];congr 1;omega
  rw[e2,List.append_assoc,hT]
  unfold sv
  cases b
  ·rw[if_neg (by simp),if_neg (by simp),qcI (by omega)];simp;congr 1;omega
  ·rw[if_pos rfl,if_pos rfl,q8w (by omega)];simp;congr 1;omega
theorem qoH{n:Nat}{l:List Int}(h:WOK n l):qk1 (n:Int) (rI l)=true:=by
 unfold qk1
 have:=h.le
 simp only[Bool.and_eq_true,decide_eq_true_eq,List.all_eq_true,List.mem_range]
 refine⟨⟨by omega,by omega⟩,fun i _=>?_⟩
 have:=h.get i
 rw[q1q];exact this
theorem qo6{n:Nat}{l:List Int}(h:WOK n l)(hn:nrm n l)(b:Bool):(qy [.b b,.i (n:Int),.r (rI l)]).run=some (0,[.s (tI (sv b l)),.b b,.i (n:Int),.r (rI l)]):=by
 show (qqR [.b b,.i (n:Int),.r (rI l)]).run=_
 unfold qqR
 simp only
 rw[if_pos (qoH h),qst h hn];rfl
end Go.Eng

namespace Go.Eng
theorem qsJ{nr ny:Nat}{lr ly:List Int}(hr:WOK nr lr)(hnr:nrm nr lr)(hy:WOK ny ly)(hny:nrm ny ly)(h0:ny≠0)(hy231:ny≤231)(hlt:mv lr<mv ly*1000000000)(y0:Int)(xb:Bool)(xi:Int)(xr:R)(b2:Bool)(qb:Bool)(qi:Int)(qr:R)(br:Bool) :
  ∃(d:Int) (n:Nat) (l:List Int),(qw vt [.i y0,.i 0,.b xb,.i xi,.r xr,.b b2,.i (ny:Int),.r (rI ly),.b qb,.i qi,.r qr,.b br,.i (nr:Int),.r (rI lr)]).run =
   some (0,[.i y0,.i d,.b xb,.i xi,.r xr,.b b2,.i (ny:Int),.r (rI ly),.b qb,.i qi,.r qr,.b br,.i (n:Int),.r (rI l)])∧WOK n l∧nrm n l∧0≤d∧d<1000000000∧mv lr=d*mv ly+mv l∧mv l<mv ly:=by
 have hyp:0<mv ly:=by
  have:=hy.lo hny h0
  have:=q5V (ny-1)
  omega
 have hyb:=hy.bd
 obtain⟨j,qs,g1,rfl,d,n,l,rfl,g2⟩:=q4f (S:=vt) (fun k ps=>∃(d:Int) (n:Nat) (l:List Int),ps=[.i y0,.i d,.b xb,.i xi,.r xr,.b b2,.i (ny:Int),.r (rI ly),.b qb,.i qi,.r qr,.b br,.i (n:Int),.r (rI l)] ∧
   WOK n l∧nrm n l∧0≤d∧d+k=1000000000∧mv lr=d*mv ly+mv l)
  (fun j qs=>j=0∧∃(d:Int) (n:Nat) (l:List Int),qs=[.i y0,.i d,.b xb,.i xi,.r xr,.b b2,.i (ny:Int),.r (rI ly),.b qb,.i qi,.r qr,.b br,.i (n:Int),.r (rI l)]∧WOK n l∧nrm n l∧0≤d∧d<1000000000∧mv lr=d*mv ly+mv l∧mv l<mv ly) (n:=1000000000) (by omega)
  (fun k ps hk ⟨d,n,l,hps,hw,hn,hd0,hdk,hv⟩=>by
   subst hps
   have hlb:=hw.bd
   have hdlt:d<1000000000:=by
    rcases Int.lt_or_le d 1000000000 with h|h
    ·exact h
    ·have:=Int.mul_le_mul_of_nonneg_right h (show 0≤mv ly by omega)
     rw[Int.mul_comm (mv ly)] at hlt
     omega
   rw[qbX]
   obtain⟨r,r1,r2⟩:=qok hw hn hy hny br b2
   by_cases hle:mv ly≤mv l
   ·left
    have hr0:0≤r:=by rw[r2];exact hle
    have hdm:=Int.mul_nonneg hd0 (show 0≤mv ly by omega)
    have hl9:mv l<pB (ny+1):=by rw[q4Z];omega
    obtain⟨q,e1,e2,e3,e4⟩:=qp1 hw hn hy hny h0 hle hl9 hy231 br b2
    obtain⟨n',l',c1,c2,c3,c4⟩:=qhp (f:=-q) (up:=0) hw hy (by omega) (by omega) (T:=mv l-q*mv ly) (by rw[q28,Int.mul_one,Int.neg_mul];omega) (by omega)
     (by have:=hlb.2;have:=q6K hw.le;have:=Int.mul_nonneg (show 0≤q by omega) (show 0≤mv ly by omega);omega) br b2
    have hq2:(d+q)*mv ly+(mv l-q*mv ly)=d*mv ly+mv l:=by rw[Int.add_mul];omega
    have hdq:d+q<1000000000:=by
     rcases Int.lt_or_le (d+q) 1000000000 with h|h
     ·exact h
     ·have:=Int.mul_le_mul_of_nonneg_right h (show 0≤mv ly by omega)
      rw[Int.mul_comm (mv ly)] at hlt
      omega
    have w1:qE .i64 0 q=-q:=qrf (by omega)
    have w2:ql .i64 d q=d+q:=vC (by omega)
    simp only[show ((0:Nat):Int)=0 from rfl] at c1
    refine⟨(1000000000-(d+q)).toNat,[.i y0,.i (d+q),.b xb,.i xi,.r xr,.b b2,.i (ny:Int),.r (rI ly),.b qb,.i qi,.r qr,.b br,.i (n':Int),.r (rI l')],by omega,?_,d+q,n',l',rfl,c2,c3,by omega,by omega,by rw[c4];omega⟩
    simp only[STD,r1,hr0,e1,w1,w2,c1]
   ·right
    have hr0:¬0≤r:=by rw[r2];exact hle
    refine⟨0,_,?_,rfl,d,n,l,rfl,hw,hn,hd0,hdlt,hv,by omega⟩
    simp only[STD,r1,hr0]) (ps:=[.i y0,.i 0,.b xb,.i xi,.r xr,.b b2,.i (ny:Int),.r (rI ly),.b qb,.i qi,.r qr,.b br,.i (nr:Int),.r (rI lr)]) ⟨0,nr,lr,rfl,hr,hnr,by omega,by omega,by omega⟩
 exact⟨d,n,l,g1,g2⟩
theorem qs4{n:Nat}{l:List Int}{d:Int}(h:WOK n l)(hn:n≤231)(hd:0≤d∧d<1000000000) :
  q91 (qdh (rI l) 1 (rI l) 0 (q5l (qpS (n:Int) 0) (qpS 232 1))) 0 0 [.i d]=rI (d::(l.take n++l.drop (1+n)))∧WOK (n+1) (d::(l.take n++l.drop (1+n)))∧mv (d::(l.take n++l.drop (1+n)))=d+1000000000*mv l:=by
 have hlen:=h.len
 have e1:q5l (qpS (n:Int) 0) (qpS 232 1)=(n:Int):=by unfold q5l qpS;split<;>omega
 obtain⟨x,t,rfl⟩:∃x t,l=x::t:=by
  cases l with
  | nil=>simp at hlen
  | cons x t=>exact⟨x,t,rfl⟩
 refine⟨?_,⟨by simp;simp at hlen;omega,by omega,?_,?_⟩,?_⟩
 ·rw[e1]
  unfold qdh
  have:(rI (x::t)).take (1:Int).toNat++((rI (x::t)).drop (0:Int).toNat).take (n:Int).toNat++(rI (x::t)).drop ((1:Int).toNat+(n:Int).toNat)=rI (x::((x::t).take n++(x::t).drop (1+n))):=by
   rw[Int.toNat_natCast]
   simp[rI,List.map_take,List.map_drop]
  rw[this,show (0:Int)=((0:Nat):Int) from rfl,qc0]
  rfl
 ·intro y hy
  rcases List.mem_cons.1 hy with rfl|hy
  ·exact hd
  ·rcases List.mem_append.1 hy with hy|hy
   ·exact h.dig _ (List.mem_of_mem_take hy)
   ·exact h.dig _ (List.mem_of_mem_drop hy)
 ·intro i hi
  obtain⟨j,rfl⟩:∃j,i=j+1:=⟨i-1,by omega⟩
  have hz:=h.z (j+1) (by omega)
  rw[List.getD_eq_getElem?_getD] at hz ⊢
  rw[List.getElem?_cons_succ,List.getElem?_append_right (by simp;omega)]
  rw[List.getElem?_drop,List.length_take,Nat.min_eq_left (by omega)]
  rw[show 1+n+(j-n)=j+1 by omega]
  exact hz
 ·show d+1000000000*mv _=_
  rw[qnT,List.length_take,Nat.min_eq_left (by omega),we h.dig h.z (show n≤1+n by omega)]
  have:=q68 (x::t) n (by omega)
  rw[we h.dig h.z (Nat.le_refl n)] at this
  omega
theorem q9S{nx ny:Nat}{lx ly:List Int}(hx:WOK nx lx)(hy:WOK ny ly)(hny:nrm ny ly)(h0:ny≠0)(hy231:ny≤231)(bx b2:Bool) :
  ∃(nq:Nat) (lq:List Int) (nr:Nat) (lr:List Int),(zJ [.b bx,.i (nx:Int),.r (rI lx),.b b2,.i (ny:Int),.r (rI ly)]).run =
   some (0,[.b bx,.i (nx:Int),.r (rI lx),.b b2,.i (ny:Int),.r (rI ly),.b false,.i (nq:Int),.r (rI lq),.b false,.i (nr:Int),.r (rI lr)])∧WOK nq lq∧nrm nq lq∧WOK nr lr∧nrm nr lr∧mv lx=mv lq*mv ly+mv lr∧mv lr<mv ly:=by
 rw[qfo]
 have hyp:0<mv ly:=by
  have:=hy.lo hny h0
  have:=q5V (ny-1)
  omega
 have hx232:=hx.le
 have e0:q2s 232 [.i 0]=rI (List.replicate 232 0):=qjb 232 0
 have hxl:=hx.len
 obtain⟨j,qs,g1,rfl,nq,lq,nr,lr,rfl,g2,g3,g4,g5,g6⟩:=q4f (S:=yO) (fun k ps=>∃(Q:Int) (nq:Nat) (lq:List Int) (nr:Nat) (lr:List Int),
   ps=[.i ((k:Int)-1),.b bx,.i (nx:Int),.r (rI lx),.b b2,.i (ny:Int),.r (rI ly),.b false,.i (nq:Int),.r (rI lq),.b false,.i (nr:Int),.r (rI lr)]∧k≤nx∧WOK nq lq∧WOK nr lr∧nrm nr lr∧mv (lx.drop k)=Q*mv ly+mv lr∧mv lr<mv ly∧mv lq=pB k*Q∧∀i,i<k→lq.getD i 0=0)
  (fun j qs=>j=0∧∃(nq:Nat) (lq:List Int) (nr:Nat) (lr:List Int),qs=[.b bx,.i (nx:Int),.r (rI lx),.b b2,.i (ny:Int),.r (rI ly),.b false,.i (nq:Int),.r (rI lq),.b false,.i (nr:Int),.r (rI lr)]∧WOK nq lq∧WOK nr lr∧nrm nr lr∧mv lx=mv lq*mv ly+mv lr∧mv lr<mv ly) (n:=nx) (by omega)
  (fun k ps hk ⟨Q,nq,lq,nr,lr,hps,hkn,hwq,hwr,hnr,hv,hlt,hq,hz⟩=>by
   subst hps
   rw[qda]
   rcases Nat.eq_zero_or_pos k with rfl|hk0
   ·right
    have a1:¬(0:Int)≤((0:Nat):Int)-1:=by omega
    refine⟨0,[.b bx,.i (nx:Int),.r (rI lx),.b b2,.i (ny:Int),.r (rI ly),.b false,.i (nq:Int),.r (rI lq),.b false,.i (nr:Int),.r (rI lr)],?_,rfl,nq,lq,nr,lr,rfl,hwq,hwr,hnr,?_,hlt⟩
    ·simp only[STD,a1]
    ·rw[hq,q28,Int.one_mul,←hv,List.drop_zero]
   ·left
    obtain⟨i,rfl⟩:∃i,k=i+1:=⟨k-1,by omega⟩
    have e:(((i+1:Nat):Int)-1)=(i:Int):=by omega
    rw[e]
    have hnr231:nr≤231:=Nat.le_trans (qvU hwr hnr hy (by omega)) hy231
    have hil:i<lx.length:=by omega
    have gx:=hx.get i
    obtain⟨s1,s2,s3⟩:=qs4 hwr hnr231 (d:=lx.getD i 0) gx
    obtain⟨m,t1,t2,t3⟩:=qcm s2 false
    have hX:mv (lx.drop i)=lx.getD i 0+1000000000*(Q*mv ly+mv lr):=by rw[q6s hil,←hv,vY hil]
    have hlt2:mv (lx.getD i 0::(lr.take nr++lr.drop (1+nr)))<mv ly*1000000000:=by rw[s3];omega
    obtain⟨d,n',l',d1,d2,d3,d4,d5,d6,d7⟩:=qsJ t2 t3 hy hny h0 hy231 hlt2 (i:Int) bx (nx:Int) (rI lx) b2 false (nq:Int) (rI lq) false
    rw[s3] at d6
    have a1:(0:Int)≤(i:Int):=by omega
    have a2:(i:Int)<232:=by omega
    have a3:(0:Int)≤232∧(232:Int)≤232:=by omega
    have a4:(0:Int)≤1∧(1:Int)≤232:=by omega
    have a5:(0:Int)≤(nr:Int)∧(nr:Int)≤232:=by omega
    have a6:(0:Int)≤0∧(0:Int)≤(nr:Int):=by omega
    have w1:ql .i64 (nr:Int) 1=((nr+1:Nat):Int):=by rw[vC (by omega)];omega
    have w2:ql .i64 (i:Int) 1=((i+1:Nat):Int):=by rw[vC (by omega)];omega
    have w3:qE .i64 (i:Int) 1=(i:Int)-1:=yE (by omega)
    have w4:qdt (nq:Int) ((i+1:Nat):Int)=((max nq (i+1):Nat):Int):=qop _ _
    have hiq:i<lq.length:=by rw[hwq.len];omega
    have hzi:lq[i]=0:=by rw[←vY hiq];exact hz i (by omega)
    refine⟨i,[.i ((i:Int)-1),.b bx,.i (nx:Int),.r (rI lx),.b b2,.i (ny:Int),.r (rI ly),.b false,.i ((max nq (i+1):Nat):Int),.r (rI (lq.set i d)),.b false,.i (n':Int),.r (rI l')],by omega,?_,Q*1000000000+d,_,_,_,_,rfl,by omega,hwq.setW (by omega) ⟨d4,d5⟩,d2,d3,?_,d7,?_,?_⟩
    ·simp only[q1q,s1,w1]
     simp only[STD,a1,a2,a3,a4,a5,a6,and_self,t1,d1,w2,w3,w4,qc0]
    ·rw[hX,Int.add_mul,Int.mul_add]
     have:Q*1000000000*mv ly=1000000000*(Q*mv ly):=by grind
     omega
    ·rw[qnE lq i hiq,hzi,hq,q4Z];grind
    ·intro a ha
     rw[List.getD_eq_getElem?_getD,List.getElem?_set_ne (by omega),←List.getD_eq_getElem?_getD]
     exact hz a (by omega))
  (ps:=[.i ((nx:Int)-1),.b bx,.i (nx:Int),.r (rI lx),.b b2,.i (ny:Int),.r (rI ly),.b false,.i 0,.r (rI (List.replicate 232 0)),.b false,.i 0,.r (rI (List.replicate 232 0))])
  ⟨0,0,_,0,_,rfl,Nat.le_refl _,WOK.zero,WOK.zero,.inl rfl,by rw[we hx.dig hx.z (Nat.le_refl _),q7V];omega,by rw[q7V];exact hyp,by rw[q7V,Int.mul_zero],fun i _=>qkY 232 i⟩
 obtain⟨m,t1,t2,t3⟩:=qcm g2 false
 refine⟨m,lq,nr,lr,?_,t2,t3,g3,g4,g5,g6⟩
 have hs:qE .i64 (nx:Int) 1=(nx:Int)-1:=yE (by omega)
 simp only[e0,hs]
 simp only[STD,g1,t1]
end Go.Eng

namespace Go.Eng
theorem qv6{c:UInt8}{t:List UInt8}:qdF (c::t) 0 1=[c]:=by simp[qdF]
theorem qrT(s:List UInt8):(qt [.s s,.s [45]]).run=some (0,[.b (decide (s.getD 0 0=45))]):=by
 rw[q1v]
 have h1:zt [45]=1:=rfl
 cases s with
 | nil=>
  have a:¬(1:Int)≤zt []:=by decide
  simp only[STD,h1,a];rfl
 | cons c t=>
  have a:(1:Int)≤zt (c::t):=by unfold zt;simp only[List.length_cons];omega
  simp only[STD,h1,a,show (0:Int)≤1 by omega,show (0:Int)≤0 by omega,and_self,qv6]
  have e:seq [c] [45]=decide ((c::t).getD 0 0=45):=by rw[Bool.eq_iff_iff,vP];simp
  rw[e]
theorem qjG(s:List UInt8):(qD [.s s,.s [45]]).run=some (0,[.s (mag s)]):=by
 rw[q94]
 have h:(qL [.s s,.s [45]]).run=some (0,[.s (mag s)]):=by
  rw[q1u]
  have h1:zt [45]=1:=rfl
  unfold mag
  by_cases h:s.getD 0 0=45
  ·rw[if_pos h]
   have a:(1:Int)≤zt s:=by
    cases s with
    | nil=>simp at h
    | cons c t=>unfold zt;simp only[List.length_cons];omega
   have e:qdF s 1 (zt s)=s.drop 1:=by unfold qdF zt;simp
   simp only[STD,qrT,h,h1,a,and_self,Int.le_refl,show (0:Int)≤zt s by omega,show (0:Int)≤1 by omega,e]
  ·rw[if_neg h]
   simp only[STD,qrT,h]
 simp only[STD,h]
theorem q7U(s:List UInt8)(hl:s.length≤1000000000):(qz [.s s]).run=some (0,[.i (qnC s)]):=by
 rw[qhw]
 have hT:=qjG s
 have hml:(mag s).length≤s.length:=by unfold mag;split<;>simp
 have hR:=qv9 (mag s) (by omega)
 have hcan:=qr7 s
 unfold qnC
 have hl3:(1024<zt (mag s))=¬((mag s).length≤1024):=by unfold zt;simp only[eq_iff_iff];omega
 by_cases hne:mag s=[]
 ·rw[if_neg (fun h=>(hcan.1 h).1 hne)]
  simp only[STD,hT,vP,hne]
 ·have hp:0<(mag s).length:=List.length_pos_iff.2 hne
  have a1:(0:Int)<zt (mag s):=by unfold zt;omega
  have hs:sat (mag s) 0=((mag s)[0].toNat:Int):=qtX (i:=0) hp
  have h48:((mag s)[0].toNat:Int)=48↔(mag s).getD 0 0=48:=by
   have:(mag s).getD 0 0=(mag s)[0]:=by simp[List.getD_eq_getElem?_getD,hp]
   rw[this]
   exact⟨fun h=>UInt8.toNat_inj.1 (by show (mag s)[0].toNat=48;omega),fun h=>by rw[h];rfl⟩
  by_cases hd:q8n (mag s)
  ·have hs1:((mag s).getD 0 0=48→s.length=1)↔(((mag s)[0].toNat:Int)=48→s=[48]):=by
    rw[h48]
    constructor
    ·intro h h2
     obtain⟨c,e⟩:=List.length_eq_one_iff.1 (h h2)
     subst e
     by_cases hc:c=45
     ·subst hc;exact absurd rfl hne
     ·have:mag [c]=[c]:=by unfold mag;rw[if_neg (by simpa using hc)]
      rw[this] at h2
      simp at h2
      rw[h2]
    ·intro h h2
     rw[h h2];rfl
   by_cases hz:((mag s)[0].toNat:Int)=48
   ·by_cases h0:s=[48]
    ·rw[if_pos (hcan.2 ⟨hne,hd,hs1.2 fun _=>h0⟩)]
     by_cases hL:(mag s).length≤1024
     ·simp only[STD,hT,hR,vP,hne,qaG,hd,a1,hs,hz,hl3,hL,Int.le_refl,and_self]
      simp only[STD,h0]
     ·simp only[STD,hT,hR,vP,hne,qaG,hd,a1,hs,hz,hl3,hL,Int.le_refl,and_self]
      simp only[STD,h0]
    ·rw[if_neg (fun h=>h0 (hs1.1 (hcan.1 h).2.2 hz))]
     simp only[STD,hT,hR,vP,hne,qaG,hd,a1,hs,hz,h0,Int.le_refl,and_self]
   ·rw[if_pos (hcan.2 ⟨hne,hd,fun h=>absurd (h48.2 h) hz⟩)]
    by_cases hL:(mag s).length≤1024
    ·simp only[STD,hT,hR,vP,hne,qaG,hd,a1,hs,hz,hl3,hL,Int.le_refl,and_self]
    ·simp only[STD,hT,hR,vP,hne,qaG,hd,a1,hs,hz,hl3,hL,Int.le_refl,and_self]
  ·rw[if_neg (fun h=>hd (hcan.1 h).2.1)]
   simp only[STD,hT,hR,vP,hne,qaG,hd]
def okL(m:Int):Prop:=nl m≤1024
theorem qn6{m:Int}(h:okL m):qnC (tI m)=0:=by
 unfold qnC
 rw[if_pos ⟨m,rfl⟩,qlt,if_pos (show (tN m.natAbs).length≤1024 from h)]
theorem qmm{m:Int}(h:okL m):(tI m).length≤1025:=by
 have:=qtf m
 unfold okL nl at h
 omega
theorem q8g{m:Int}(h:okL m):(qz [.s (tI m)]).run=some (0,[.i 0]):=by
 have:=qmm h
 rw[q7U _ (by omega),qn6 h]
def rS(l:List (List UInt8)):R:=l.map fun s=>[.s s]
theorem qie(l:List (List UInt8)):qh (rS l)=l.length:=by simp[rS,qh]
theorem qqn{l:List (List UInt8)}{i:Nat}(h:i<l.length):cS (rS l) (i:Int) 0=l[i]:=by simp[cS,zZ,rS,List.getD_eq_getElem?_getD,h,U.toS]
theorem quQ{l:List (List UInt8)}(hn:l.length<1000000)(h:∀s,s∈l→(qz [.s s]).run=some (0,[.i 0])):(zi [.r (rS l)]).run=some (0,[.i 0]):=by
 rw[qli,qie]
 have key:=kZ (S:=q21) (fun i=>[.r (rS l),.i (l.length:Int),.i (i:Int)]) (0,[]) l.length (by omega) (fun i hi=>by
  rw[qbs,qqn hi]
  have a1:(i:Int)<(l.length:Int):=by omega
  have a2:(i:Int)<qh (rS l):=by rw[qie];exact a1
  simp only[STD,a1,a2,q3g,and_self,h _ (List.getElem_mem hi),qaU hi (show l.length<9223372036854775808 by omega)]) (by
  rw[qbs]
  have a1:¬(l.length:Int)<(l.length:Int):=by omega
  simp only[STD,a1])
 simp only[show (((0:Nat)):Int)=0 from rfl] at key
 simp only[STD,key,wI key]
theorem q8y{m n:Int}(hm:okL m)(hn:okL n):(zi [.r [[.s (tI m)],[.s (tI n)]]]).run=some (0,[.i 0]):=by
 have:=quQ (l:=[tI m,tI n]) (by simp) (fun s hs=>by
  simp only[List.mem_cons,List.not_mem_nil,or_false] at hs
  rcases hs with rfl|rfl
  ·exact q8g hm
  ·exact q8g hn)
 exact this
theorem q2z(n:Int)(h:-9223372036854775808≤n∧n≤9223372036854775807):(qV [.i n]).run=some (0,[.s (tI n)]):=by
 rw[qm3]
 simp only[STD,quS n h]
theorem q2n(m:Int):(tI m=[48])=(m=0):=propext ⟨fun h=>qoe (n:=0) h,fun h=>by rw[h];rfl⟩
theorem kE(m:Int):(j1 [.s (tI m)]).run=some (0,[.i (sgn m)]):=by
 rw[qj0]
 have a1:(0:Int)<zt (tI m):=by have:=qkD m;unfold zt;omega
 have hs:(sat (tI m) 0=45)=(m<0):=qt8 m
 unfold sgn
 by_cases h0:m=0
 ·simp only[STD,vP,q2n,h0];rfl
 ·by_cases h1:m<0
  ·simp only[STD,vP,q2n,h0,a1,hs,h1,Int.le_refl,and_self]
  ·simp only[STD,vP,q2n,h0,a1,hs,h1,Int.le_refl,and_self]
theorem qkE{m:Int}(h:okL m):(q35 [.s (tI m)]).run=some (0,[.i (sgn m),.i 0]):=by
 rw[qiV]
 simp only[STD,q8g h,kE]
theorem qtR(m n:Nat):(q1A [.s (tN m),.s (tN n)]).run=some (0,[.i (sgn ((m:Int)-(n:Int)))]):=by
 rw[qhO]
 have hl:(zt (tN m)=zt (tN n))=((tN m).length=(tN n).length):=by unfold zt;simp only[eq_iff_iff];omega
 have hl2:(zt (tN m)<zt (tN n))=((tN m).length<(tN n).length):=by unfold zt;simp only[eq_iff_iff];omega
 by_cases he:(tN m).length=(tN n).length
 ·have h:=qpt (vX m) (vX n) he
  rw[q2f,q2f] at h
  simp only[STD,hl,he,h]
 ·by_cases hlt:(tN m).length<(tN n).length
  ·have h:=(qq1 m n).1 (.inl hlt)
   simp only[STD,hl,hl2,he,hlt]
   unfold sgn
   rw[if_pos (by omega)]
  ·have h:=(qq1 n m).1 (.inl (by omega))
   simp only[STD,hl,hl2,he,hlt]
   unfold sgn
   rw[if_neg (by omega),if_neg (by omega)]
theorem q78(m:Int):(m<0∧sgn m=-1)∨(m=0∧sgn m=0)∨(0<m∧sgn m=1):=by
 unfold sgn
 rcases Int.lt_trichotomy m 0 with h|h|h
 ·rw[if_pos h];omega
 ·subst h;simp
 ·rw[if_neg (by omega),if_neg (by omega)];omega
theorem qh8(m:Int):-1≤sgn m∧sgn m≤1:=by rcases q78 m with⟨_,e⟩|⟨_,e⟩|⟨_,e⟩<;>omega
theorem qub(m n:Int):(if sgn m<sgn n then -1 else if sgn n<sgn m then 1 else sgn m*sgn ((m.natAbs:Int)-(n.natAbs:Int)))=sgn (m-n):=by
 rcases q78 m with⟨a,ea⟩|⟨a,ea⟩|⟨a,ea⟩<;>rcases q78 n with⟨b,eb⟩|⟨b,eb⟩|⟨b,eb⟩<;>rw[ea,eb]<;>simp only[Int.reduceLT,Int.reduceNeg,if_true,if_false] <;>
  rcases q78 (m-n) with⟨c,ec⟩|⟨c,ec⟩|⟨c,ec⟩<;>rcases q78 ((m.natAbs:Int)-(n.natAbs:Int)) with⟨d,ed⟩|⟨d,ed⟩|⟨d,ed⟩<;>omega
theorem qgB{m n:Int}(hm:okL m)(hn:okL n):(kp [.s (tI m),.s (tI n)]).run=some (0,[.i (sgn (m-n)),.i 0]):=by
 rw[qfh]
 have h1:=qjG (tI m)
 have h2:=qjG (tI n)
 rw[qlt] at h1 h2
 have h3:=qtR m.natAbs n.natAbs
 have hw:∀a b:Int,-1≤a∧a≤1→-1≤b∧b≤1→yW .i64 a b=a*b:=fun a b ha hb=>q3z (by have:=qtG (A:=1) (B:=1) ha.1 ha.2 hb.1 hb.2;omega)
 have ba:=qh8 m
 have bb:=qh8 n
 have bc:=qh8 ((m.natAbs:Int)-(n.natAbs:Int))
 have e:=qub m n
 by_cases c1:sgn m<sgn n
 ·rw[if_pos c1] at e
  simp only[STD,q8y hm hn,kE,h1,h2,h3,c1,←e]
 ·rw[if_neg c1] at e
  by_cases c2:sgn n<sgn m
  ·rw[if_pos c2] at e
   simp only[STD,q8y hm hn,kE,h1,h2,h3,c1,c2,←e]
  ·rw[if_neg c2] at e
   simp only[STD,q8y hm hn,kE,h1,h2,h3,c1,c2,hw _ _ ba bc,←e]
theorem qf2(m:Int)(hm:nl m≤2000):∃(n:Nat) (l:List Int),(qX [.s (tI m)]).run=some (0,[.b (decide (m<0)),.i (n:Int),.r (rI l)])∧WOK n l∧nrm n l∧mv l=m.natAbs∧9*n≤nl m+8:=by
 rw[qjQ]
 have h1:=qjG (tI m)
 rw[qlt] at h1
 have a1:(0:Int)<zt (tI m):=by have:=qkD m;unfold zt;omega
 have hb:ieq (sat (tI m) 0) 45=decide (m<0):=by
  rw[Bool.eq_iff_iff,qgr,qt8];simp
 have e0:q2s 232 [.i 0]=rI (List.replicate 232 0):=qjb 232 0
 have hL:(tN m.natAbs).length≤2000:=hm
 obtain⟨j,qs,g1,rfl,n,l,rfl,g2,g3,g4⟩:=q4f (S:=q0H) (fun k ps=>∃(n:Nat) (l:List Int),ps=[.s ((tN m.natAbs).take k),.b (decide (m<0)),.i (n:Int),.r (rI l)]∧k≤(tN m.natAbs).length∧WOK n l ∧
   (k=0∧9*n≤(tN m.natAbs).length+8∨k+9*n=(tN m.natAbs).length)∧((val (tN m.natAbs):Nat):Int)=((val ((tN m.natAbs).take k):Nat):Int)*pB n+mv l)
  (fun j qs=>j=0∧∃(n:Nat) (l:List Int),qs=[.b (decide (m<0)),.i (n:Int),.r (rI l)]∧WOK n l∧mv l=m.natAbs∧9*n≤(tN m.natAbs).length+8) (n:=(tN m.natAbs).length) (by omega)
  (fun k ps hk ⟨n,l,hps,hkl,hw,hkn,hv⟩=>by
   subst hps
   rw[qfX]
   have hlk:zt ((tN m.natAbs).take k)=(k:Int):=by unfold zt;rw[List.length_take,Nat.min_eq_left hkl]
   rcases Nat.eq_zero_or_pos k with rfl|hk0
   ·right
    refine⟨0,[.b (decide (m<0)),.i (n:Int),.r (rI l)],?_,rfl,n,l,rfl,hw,?_,by omega⟩
    ·have a:¬(0:Int)<zt ((tN m.natAbs).take 0):=by rw[hlk];omega
     simp only[STD,a]
    ·rw[q2f,List.take_zero,qk6] at hv
     simp at hv;omega
   ·left
    have hn231:n≤231:=by omega
    obtain⟨q,hq,hq9⟩:∃q:Nat,qdt 0 (qE .i64 (k:Int) 9)=(q:Int)∧q=k-9:=by
     refine⟨k-9,?_,rfl⟩
     rw[yE (by omega)];unfold qdt;split<;>omega
    have hqk:q≤k:=by omega
    have hsub:qdF ((tN m.natAbs).take k) (q:Int) (k:Int)=((tN m.natAbs).take k).drop q:=by unfold qdF;simp[List.take_take]
    have hsub2:qdF ((tN m.natAbs).take k) 0 (q:Int)=(tN m.natAbs).take q:=by unfold qdF;simp[List.take_take,Nat.min_eq_left hqk]
    have hdg:q8n (((tN m.natAbs).take k).drop q):=qrC (qr1 (vX _) k) q
    have hdl:(((tN m.natAbs).take k).drop q).length=k-q:=by rw[List.length_drop,List.length_take,Nat.min_eq_left hkl]
    have hdn:((tN m.natAbs).take k).drop q≠[]:=by intro h;rw[h] at hdl;simp at hdl;omega
    have hA:=qrs (s:=((tN m.natAbs).take k).drop q) (by omega) (qlm hdg hdn)
    have hvl:=q9a hdg
    rw[hdl] at hvl
    have hv9:val (((tN m.natAbs).take k).drop q)<1000000000:=Nat.lt_of_lt_of_le hvl (by
     have:(10:Nat)^(k-q)≤10^9:=Nat.pow_le_pow_right (by omega) (by omega)
     simpa using this)
    have b1:(0:Int)<(k:Int):=by omega
    have b2:(0:Int)≤(q:Int)∧(q:Int)≤(k:Int):=by omega
    have b3:(0:Int)≤(k:Int)∧(k:Int)≤(k:Int):=by omega
    have b4:(0:Int)≤(n:Int)∧(n:Int)<232:=by omega
    have b5:(0:Int)≤0∧(0:Int)≤(q:Int):=by omega
    have w1:ql .i64 (n:Int) 1=((n+1:Nat):Int):=by rw[vC (by omega)];omega
    have hnl:n<l.length:=by rw[hw.len];omega
    have hz:l[n]=0:=by rw[←vY hnl];exact hw.z n (Nat.le_refl _)
    have hW:=hw.setW (j:=n) (y:=((val (((tN m.natAbs).take k).drop q):Nat):Int)) (by omega) (by omega)
    rw[Nat.max_eq_right (by omega)] at hW
    refine⟨q,[.s ((tN m.natAbs).take q),.b (decide (m<0)),.i ((n+1:Nat):Int),.r (rI (l.set n ((val (((tN m.natAbs).take k).drop q):Nat):Int)))],by omega,?_,n+1,_,rfl,by omega,hW,by omega,?_⟩
    ·simp only[STD,hlk,b1,hq,b2,b3,b4,b5,and_self,hsub,hsub2,hA,w1,qc0]
    ·rw[qnE l n hnl,hz,hv]
     have hsp:val ((tN m.natAbs).take k)=val ((tN m.natAbs).take q)*10^(k-q)+val (((tN m.natAbs).take k).drop q):=by
      have h1:(tN m.natAbs).take k=((tN m.natAbs).take k).take q++((tN m.natAbs).take k).drop q:=(List.take_append_drop q _).symm
      have h2:((tN m.natAbs).take k).take q=(tN m.natAbs).take q:=by rw[List.take_take,Nat.min_eq_left hqk]
      rw[h2] at h1
      generalize ((tN m.natAbs).take k).drop q=D at *
      rw[h1,qjJ,hdl]
     rw[hsp,q4Z]
     rcases Nat.lt_or_ge k 9 with h9|h9
     ·have:q=0:=by omega
      subst this
      rw[List.take_zero,qk6]
      simp;omega
     ·have:k-q=9:=by omega
      rw[this]
      simp only[Int.natCast_add,Int.natCast_mul]
      have e9:(((10:Nat)^9:Nat):Int)=1000000000:=by simp
      rw[e9]
      grind) (ps:=[.s ((tN m.natAbs).take (tN m.natAbs).length),.b (decide (m<0)),.i 0,.r (rI (List.replicate 232 0))])
  ⟨0,_,rfl,Nat.le_refl _,WOK.zero,.inr (by omega),by rw[q28,List.take_length,q7V];simp⟩
 rw[List.take_length] at g1
 obtain⟨n2,t1,t2,t3⟩:=qcm g2 (decide (m<0))
 refine⟨n2,l,?_,t2,t3,g3,?_⟩
 ·simp only[STD,e0,hb,h1,a1,Int.le_refl,and_self,g1,t1]
 ·have:=qvU t2 t3 g2 (Int.le_refl _)
  unfold nl;omega
end Go.Eng

namespace Go.Eng
theorem qu6{m:Int}{k n:Nat}(h:nl m≤k)(hk:k≤9*n):(m.natAbs:Int)<pB n:=by
 rw[qrH]
 have h1:=quH h
 have h2:(10:Nat)^k≤10^(9*n):=Nat.pow_le_pow_right (by omega) hk
 omega
theorem qiD{m:Int}(h:okL m):(m.natAbs:Int)<pB 114:=qu6 (k:=1024) h (by omega)
theorem qjY{m:Int}(h:okL m):okL (-m):=by unfold okL;rw[qqp];exact h
theorem qrk{n:Nat}:pB n+pB n≤pB (n+1):=by rw[q4Z];have:=q5V n;omega
theorem quV{b:Bool}{l:List Int}(h:0≤mv l):((sv b l).natAbs:Int)=mv l:=by unfold sv;cases b<;>simp<;>omega
theorem qkz{n:Nat}{l:List Int}(h:WOK n l)(hn:nrm n l)(b:Bool)(hk:okL (sv b l)):(zg [.b b,.i (n:Int),.r (rI l)]).run=some (0,[.s (tI (sv b l)),.i 0,.b b,.i (n:Int),.r (rI l)]):=by
 rw[q96]
 simp only[STD,qo6 h hn,q8g hk]
theorem qmY(m n:Int):(vR [.s (tI m),.s (tI n)]).run=some (0,if (tI m).length≤9∧(tI n).length≤9 then [.i m,.i n,.b true] else [.i 0,.i 0,.b false]):=by
 rw[qi3]
 have h1:(9<zt (tI m))=¬(tI m).length≤9:=by unfold zt;simp only[eq_iff_iff];omega
 have h2:(9<zt (tI n))=¬(tI n).length≤9:=by unfold zt;simp only[eq_iff_iff];omega
 by_cases a:(tI m).length≤9
 ·by_cases b:(tI n).length≤9
  ·simp only[STD,h1,h2,a,b,and_self,qrs (s:=tI m) (by omega) (qqT m),qrs (s:=tI n) (by omega) (qqT n)]
  ·simp only[STD,h1,h2,a,b,and_false]
 ·simp only[STD,h1,a,false_and]
theorem qag{m:Int}(h:(tI m).length≤9):m.natAbs<1000000000:=by
 have:(tN m.natAbs).length≤9:=by
  unfold tI at h
  split at h
  ·simp at h;omega
  ·exact h
 exact Nat.lt_of_lt_of_le (qd8 this) (by simp)
theorem qnR(n:Int)(h:-9223372036854775808≤n∧n≤9223372036854775807):(jZ [.i n]).run=some (0,[.s (tI n),.i 0]):=by
 rw[qh5]
 simp only[STD,q2z n h]
theorem qqF{m:Int}{l:List Int}(h:mv l=m.natAbs):sv (decide (m<0)) l=m:=by
 unfold sv
 by_cases hm:m<0
 ·rw[decide_eq_true hm,if_pos rfl];omega
 ·rw[decide_eq_false hm,if_neg (by simp)];omega
theorem qvk{m n:Int}(hm:okL m)(hn:okL n)(hs:okL (m+n)):(q5q [.r [[.s (tI m)],[.s (tI n)]]]).run=some (0,[.s (tI (m+n)),.i 0]):=by
 rw[qlF]
 have e0:q2s 232 [.i 0]=rI (List.replicate 232 0):=qjb 232 0
 have lm:=qiD hm
 have ln:=qiD hn
 obtain⟨q1,l1,r1,w1,n1,v1,_⟩:=qf2 m (by unfold okL at hm;omega)
 obtain⟨q2,l2,r2,w2,n2,v2,_⟩:=qf2 n (by unfold okL at hn;omega)
 have hb2:=q6K (show 115≤232 by omega)
 have hb1:pB 114+pB 114≤pB 115:=qrk
 have hb0:=q5V 114
 obtain⟨b1,k1,m1,a1,a2,a3,a4⟩:=qt5 (lx:=List.replicate 232 0) (nx:=0) WOK.zero (.inl rfl) w1 n1 (by rw[q7V,v1];omega) false (decide (m<0))
 rw[qqF v1] at a4
 have a5:sv b1 m1=m:=by
  have:sv false (List.replicate 232 0)=0:=by unfold sv;rw[if_neg (by simp),q7V]
  rw[a4,this];omega
 obtain⟨b2,k2,m2,c1,c2,c3,c4⟩:=qt5 a2 a3 w2 n2 (by rw[←quV (b:=b1) a2.bd.1,a5,v2];omega) b1 (decide (n<0))
 rw[qqF v2,a5] at c4
 have key:=kZ (S:=q1W) (fun i=>match i with
  | 0=>[.r [[.s (tI m)],[.s (tI n)]],.i 2,.i 0,.b false,.i 0,.r (rI (List.replicate 232 0))]
  | 1=>[.r [[.s (tI m)],[.s (tI n)]],.i 2,.i 1,.b b1,.i (k1:Int),.r (rI m1)]
  | _=>[.r [[.s (tI m)],[.s (tI n)]],.i 2,.i 2,.b b2,.i (k2:Int),.r (rI m2)]) (0,[.b b2,.i (k2:Int),.r (rI m2)]) 2 (by omega) (fun i hi=>by
   have:i=0∨i=1:=by omega
   have d0:cS [[.s (tI m)],[.s (tI n)]] 0 0=tI m:=rfl
   have d1:cS [[.s (tI m)],[.s (tI n)]] 1 0=tI n:=rfl
   have d2:qh [[U.s (tI m)],[U.s (tI n)]]=2:=rfl
   rcases this with rfl|rfl
   ·simp only
    rw[q6Q,d0,d2]
    simp only[show ((0:Nat):Int)=0 from rfl] at a1
    have w:ql .i64 0 1=1:=by decide
    simp only[STD,r1,a1,w,show (0:Int)<2 by omega,show (0:Int)≤0 by omega,and_self]
   ·simp only
    rw[q6Q,d1,d2]
    have w:ql .i64 1 1=2:=by decide
    simp only[STD,r2,c1,w,show (1:Int)<2 by omega,show (0:Int)≤1 by omega,and_self]) (by
   simp only
   rw[q6Q]
   simp only[STD,show ¬(2:Int)<2 by omega])
 simp only at key
 have hL:=qkz c2 c3 b2 (by rw[c4];exact hs)
 rw[c4] at hL
 have d2:qh [[U.s (tI m)],[U.s (tI n)]]=2:=rfl
 simp only[e0,d2]
 simp only[STD,key,hL]
theorem quO{m n:Int}(hm:okL m)(hn:okL n)(hs:okL (m+n)):(kj [.s (tI m),.s (tI n)]).run=some (0,[.s (tI (m+n)),.i 0]):=by
 rw[qkp]
 have h:=qmY m n
 by_cases hc:(tI m).length≤9∧(tI n).length≤9
 ·rw[if_pos hc] at h
  have b1:=qag hc.1
  have b2:=qag hc.2
  have w:ql .i64 m n=m+n:=vC (by omega)
  simp only[STD,q8y hm hn,h,w,qnR (m+n) (by omega)]
 ·rw[if_neg hc] at h
  simp only[STD,q8y hm hn,h,qvk hm hn hs]
theorem qoD{m:Int}(hm:okL m):(uG [.s (tI m)]).run=some (0,[.s (tI (-m))]):=by
 rw[qe1]
 have hl:=qmm hm
 have hp:=qkD m
 rcases q78 m with⟨h,e⟩|⟨h,e⟩|⟨h,e⟩
 ·have a1:(0:Int)≤zt (tI m)∧zt (tI m)≤zt (tI m):=by unfold zt;omega
  have a2:(0:Int)≤1∧1≤zt (tI m):=by unfold zt;omega
  have a3:qdF (tI m) 1 (zt (tI m))=tI (-m):=by
   unfold qdF zt
   rw[q8w h,qcI (m:=-m) (by omega),Int.natAbs_neg];simp
  simp only[STD,kE,e,a1,a2,a3,and_self,show ¬((-1:Int)=0) by omega,show ¬((-1:Int)=1) by omega]
 ·simp only[STD,kE,e]
  rw[h];rfl
 ·have a1:zt [45]+zt (tI m)≤140737488355328:=by unfold zt;simp;omega
  have a3:qlH [45] (tI m)=tI (-m):=by
   unfold qlH
   rw[q8w (m:=-m) (by omega),qcI (m:=m) (by omega),Int.natAbs_neg];rfl
  simp only[STD,kE,e,a1,a3,show ¬((1:Int)=0) by omega]
theorem qvW{m n:Int}(hm:okL m)(hn:okL n)(hs:okL (m-n)):(q2H [.s (tI m),.s (tI n)]).run=some (0,[.s (tI (m-n)),.i 0]):=by
 rw[qlv]
 have h:=quO hm (qjY hn) (by rwa [←Int.sub_eq_add_neg])
 rw[←Int.sub_eq_add_neg] at h
 simp only[STD,q8y hm hn,qoD hn,h]
theorem qvO{m n:Int}(hm:okL m)(hn:okL n)(hs:okL (m*n)):(q1a [.s (tI m),.s (tI n)]).run=some (0,[.s (tI (m*n)),.i 0]):=by
 rw[qlj]
 have h:=qmY m n
 by_cases hc:(tI m).length≤9∧(tI n).length≤9
 ·rw[if_pos hc] at h
  have b1:=qag hc.1
  have b2:=qag hc.2
  have b3:=qtG (A:=999999999) (B:=999999999) (a:=m) (b:=n) (by omega) (by omega) (by omega) (by omega)
  have w:yW .i64 m n=m*n:=q3z (by omega)
  simp only[STD,q8y hm hn,h,w,qnR (m*n) (by omega)]
 ·rw[if_neg hc] at h
  unfold okL at hm hn
  obtain⟨q1,l1,r1,w1,n1,v1,z1⟩:=qf2 m (by omega)
  obtain⟨q2,l2,r2,w2,n2,v2,z2⟩:=qf2 n (by omega)
  obtain⟨k,l,t1,t2,t3,t4⟩:=qug w1 w2 (by omega) (decide (m<0)) (decide (n<0))
  have hv:sv (!(Go.Eng.beq (decide (m<0)) (decide (n<0)))) l=m*n:=by
   unfold sv
   rw[t4,v1,v2]
   have e:((m.natAbs:Int)*(n.natAbs:Int))=(((m*n).natAbs:Nat):Int):=by rw[Int.natAbs_mul];simp
   rw[e]
   unfold Go.Eng.beq
   rcases Int.lt_trichotomy m 0 with a|a|a
   ·rcases Int.lt_trichotomy n 0 with b|b|b
    ·have:=Int.mul_pos_of_neg_of_neg a b
     simp[a,b];omega
    ·subst b;simp
    ·have:=Int.mul_neg_of_neg_of_pos a b
     have b':¬n<0:=by omega
     simp[a,b'];omega
   ·subst a;simp
   ·have a':¬m<0:=by omega
    rcases Int.lt_trichotomy n 0 with b|b|b
    ·have:=Int.mul_neg_of_pos_of_neg a b
     simp[a',b];omega
    ·subst b;simp
    ·have:=Int.mul_pos a b
     have b':¬n<0:=by omega
     simp[a',b'];omega
  have hL:=qkz t2 t3 (!(Go.Eng.beq (decide (m<0)) (decide (n<0)))) (by rw[hv];exact hs)
  rw[hv] at hL
  simp only[STD,q8y hm hn,h,r1,r2,t1,hL]
theorem qrJ{n:Nat}{l:List Int}(h:WOK n l)(hn:nrm n l){k:Nat}(hl:mv l<pB k):n≤k:=by
 rcases Nat.lt_or_ge k n with h1|h1
 ·have:=h.lo hn (by omega)
  have:=q6K (show k≤n-1 by omega)
  omega
 ·exact h1
theorem qsw{k n:Int}(h0:n≠0)(hm:okL (k*n))(hn:okL n):(q0F [.s (tI (k*n)),.s (tI n)]).run=some (0,[.s (tI k),.s (tI 0),.i 0]):=by
 rw[qh3]
 have h:=qmY (k*n) n
 have hz:¬tI n=[48]:=by rw[q2n];exact h0
 by_cases hc:(tI (k*n)).length≤9∧(tI n).length≤9
 ·rw[if_pos hc] at h
  have b1:=qag hc.1
  have b2:=qag hc.2
  have hk:k.natAbs≤(k*n).natAbs:=by
   rw[Int.natAbs_mul]
   have:k.natAbs*1≤k.natAbs*n.natAbs:=Nat.mul_le_mul_left _ (by omega)
   omega
  have w1:q5v (k*n) n=0:=by unfold q5v;exact Int.mul_tmod_left k n
  have w2:jI .i64 (k*n) n=k:=by
   rw[Int.mul_comm];exact qpH h0 (by omega)
  simp only[STD,q8y hm hn,vP,hz,h,h0,w1,w2,q2z k (by omega),q2z 0 (by omega)]
 ·rw[if_neg hc] at h
  have lm:=qiD hm
  have ln:=qiD hn
  obtain⟨q1,l1,r1,w1,n1,v1,z1⟩:=qf2 (k*n) (by unfold okL at hm;omega)
  obtain⟨q2,l2,r2,w2,n2,v2,z2⟩:=qf2 n (by unfold okL at hn;omega)
  have hq2:q2≤114:=qrJ w2 n2 (by omega)
  have hq0:q2≠0:=fun h=>by rw[qd6 w2 n2] at h;omega
  obtain⟨nq,lq,nr,lr,d1,d2,d3,d4,d5,d6,d7⟩:=q9S w1 w2 n2 hq0 (by omega) (decide (k*n<0)) (decide (n<0))
  have e1:((k*n).natAbs:Int)=(k.natAbs:Int)*(n.natAbs:Int):=by rw[Int.natAbs_mul];simp
  rw[v1,v2,e1] at d6
  rw[v2] at d7
  have b4:=d4.bd.1
  have hr0:mv lr=0∧mv lq=k.natAbs:=by
   have hn0:(0:Int)<(n.natAbs:Int):=by omega
   have e2:((k.natAbs:Int)-mv lq)*(n.natAbs:Int)=mv lr:=by rw[Int.sub_mul];omega
   rcases Int.lt_trichotomy ((k.natAbs:Int)-mv lq) 0 with a|a|a
   ·have:=Int.mul_neg_of_neg_of_pos a hn0;omega
   ·rw[a,Int.zero_mul] at e2;omega
   ·have:=Int.mul_le_mul_of_nonneg_right (show 1≤(k.natAbs:Int)-mv lq by omega) (show 0≤(n.natAbs:Int) by omega)
    omega
  have hnr:nr=0:=by rw[qd6 d4 d5];exact hr0.1
  have hv:sv (!(Go.Eng.beq (decide (k*n<0)) (decide (n<0)))) lq=k:=by
   unfold sv
   rw[hr0.2]
   unfold Go.Eng.beq
   rcases Int.lt_trichotomy k 0 with a|a|a
   ·rcases Int.lt_trichotomy n 0 with b|b|b
    ·have:=Int.mul_pos_of_neg_of_neg a b
     have c:¬k*n<0:=by omega
     simp[b,c];omega
    ·exact absurd b h0
    ·have c:=Int.mul_neg_of_neg_of_pos a b
     have b':¬n<0:=by omega
     simp[b',c];omega
   ·subst a;simp
   ·rcases Int.lt_trichotomy n 0 with b|b|b
    ·have c:=Int.mul_neg_of_pos_of_neg a b
     simp[b,c];omega
    ·exact absurd b h0
    ·have:=Int.mul_pos a b
     have c:¬k*n<0:=by omega
     have b':¬n<0:=by omega
     simp[b',c];omega
  have hT:=qo6 d2 d3 (!(Go.Eng.beq (decide (k*n<0)) (decide (n<0))))
  rw[hv] at hT
  have hT2:=qo6 d4 d5 (decide (k*n<0))
  have hv0:sv (decide (k*n<0)) lr=0:=by unfold sv;rw[hr0.1];split<;>rfl
  rw[hv0] at hT2
  have hnr':¬(0:Int)<(nr:Int):=by omega
  simp only[STD,q8y hm hn,vP,hz,h,r1,r2,d1,hnr',hT,hT2]
theorem qtp{m n:Int}(h:m.natAbs≤n.natAbs)(hn:okL n):okL m:=Nat.le_trans (q7X h) hn
theorem qvZ{k n:Int}(h0:n≠0)(hm:okL (k*n))(hn:okL n):(q2r [.s (tI (k*n)),.s (tI n)]).run=some (0,[.s (tI k),.i 0]):=by
 rw[qlr]
 have hk:okL k:=qtp (by
  rw[Int.natAbs_mul]
  have:k.natAbs*1≤k.natAbs*n.natAbs:=Nat.mul_le_mul_left _ (by omega)
  omega) hm
 simp only[STD,qsw h0 hm hn,q8g hk]
theorem qqu(a b:Nat)(hb:b<9223372036854775808):(qw uJ [.i (a:Int),.i (b:Int)]).run=some (0,[.i ((Nat.gcd a b:Nat):Int)]):=by
 obtain⟨j,qs,h1,rfl,rfl⟩:=q4f (S:=uJ) (fun k ps=>∃x y:Nat,ps=[.i (x:Int),.i (y:Int)]∧y=k∧Nat.gcd x y=Nat.gcd a b)
  (fun j qs=>j=0∧qs=[.i ((Nat.gcd a b:Nat):Int)]) (n:=b) hb (fun k ps hk ⟨x,y,hps,hy,hg⟩=>by
  subst hps
  rw[qhn]
  by_cases h0:y=0
  ·right
   refine⟨0,[.i (x:Int)],?_,rfl,?_⟩
   ·simp only[STD,h0];simp[]
   ·rw[←hg,h0,Nat.gcd_zero_right]
  ·left
   refine⟨x%y,[.i (y:Int),.i ((x%y:Nat):Int)],by rw[←hy];exact Nat.mod_lt _ (by omega),?_,y,x%y,rfl,rfl,?_⟩
   ·simp only[STD,show ¬((y:Int)=0) by omega,qsU]
   ·rw[←hg,Nat.gcd_comm y,←Nat.gcd_rec,Nat.gcd_comm]) (ps:=[.i (a:Int),.i (b:Int)]) ⟨a,b,rfl,rfl,rfl⟩
 exact h1
theorem qtm{n:Nat}{l:List Int}(h:WOK n l)(hn:n≤1):mv l=l.getD 0 0:=by
 have:=q68 l 1 (by rw[h.len];omega)
 rw[we h.dig h.z hn,Int.mul_zero,Int.add_zero] at this
 have hl:=h.len
 obtain⟨x,t,rfl⟩:∃x t,l=x::t:=by
  cases l with
  | nil=>simp at hl
  | cons x t=>exact⟨x,t,rfl⟩
 rw[this];simp[mv]
theorem quK{m n:Int}(hm:okL m)(hn:okL n):(km [.s (tI m),.s (tI n)]).run=some (0,[.s (tN (Nat.gcd m.natAbs n.natAbs)),.i 0]):=by
 rw[qll]
 have lm:=qiD hm
 have ln:=qiD hn
 obtain⟨q1,l1,r1,w1,n1,v1,_⟩:=qf2 m (by unfold okL at hm;omega)
 obtain⟨q2,l2,r2,w2,n2,v2,_⟩:=qf2 n (by unfold okL at hn;omega)
 have hm':(tN m.natAbs).length≤1024:=hm
 have hn':(tN n.natAbs).length≤1024:=hn
 obtain⟨j,qs,g1,g2⟩:=q4f (S:=q24) (fun k ps=>∃(x y:Nat) (b1 b2:Bool) (nx ny:Nat) (lx ly:List Int),ps=[.b b1,.i (nx:Int),.r (rI lx),.b b2,.i (ny:Int),.r (rI ly)] ∧
   WOK nx lx∧nrm nx lx∧WOK ny ly∧nrm ny ly∧mv lx=x∧mv ly=y∧eM x y=k∧Nat.gcd x y=Nat.gcd m.natAbs n.natAbs∧(x:Int)<pB 114∧(y:Int)<pB 114)
  (fun j qs=>(j=0∧∃(b:Bool) (n':Nat) (l:List Int),qs=[.b b,.i (n':Int),.r (rI l)]∧WOK n' l∧nrm n' l∧mv l=((Nat.gcd m.natAbs n.natAbs:Nat):Int))∨(j=1∧qs=[.s (tN (Nat.gcd m.natAbs n.natAbs)),.i 0])) (n:=eM m.natAbs n.natAbs) (qsM (by omega) (by omega))
  (fun k ps hk ⟨x,y,b1,b2,nx,ny,lx,ly,hps,hw,hnw,hw2,hn2,hx,hy,he,hg,lx1,ly1⟩=>by
  subst hps
  rw[qhv]
  have hxl:=hw.len
  have hyl:=hw2.len
  by_cases h0:ny=0
  ·right
   have hy0:mv ly=0:=by rw[←qd6 hw2 hn2];exact h0
   have hy0':y=0:=by omega
   refine⟨0,[.b b1,.i (nx:Int),.r (rI lx)],?_,.inl ⟨rfl,b1,nx,lx,rfl,hw,hnw,?_⟩⟩
   ·simp only[STD,h0,show ¬(0:Int)<((0:Nat):Int) by omega]
   ·rw[hx,←hg,hy0',Nat.gcd_zero_right]
  ·have a0:(0:Int)<(ny:Int):=by omega
   have hy0:y≠0:=fun h=>h0 (by rw[qd6 hw2 hn2];omega)
   by_cases hc:nx≤1∧ny≤1
   ·right
    have e1:=qtm hw hc.1
    have e2:=qtm hw2 hc.2
    have d1:cI (rI lx) 0 0=(x:Int):=by rw[show (0:Int)=((0:Nat):Int) from rfl,q1q,←e1,hx]
    have d2:cI (rI ly) 0 0=(y:Int):=by rw[show (0:Int)=((0:Nat):Int) from rfl,q1q,←e2,hy]
    have hy9:=hw2.get 0
    rw[←e2,hy] at hy9
    have hE:=qqu x y (by omega)
    have hgl:Nat.gcd x y≤y:=Nat.gcd_le_right _ (by omega)
    have hO:=q2z ((Nat.gcd x y:Nat):Int) (by omega)
    rw[qa1] at hO
    have c1:(nx:Int)≤1:=by omega
    have c2:(ny:Int)≤1:=by omega
    refine⟨1,[.s (tN (Nat.gcd x y)),.i 0],?_,.inr ⟨rfl,by rw[hg]⟩⟩
    simp only[STD,a0,c1,c2,d1,d2,hE,hO]
   ·left
    have hny:ny≤114:=qrJ hw2 hn2 (by omega)
    obtain⟨nq,lq,nr,lr,d1,d2,d3,d4,d5,d6,d7⟩:=q9S hw hw2 hn2 h0 (by omega) b1 b2
    have hr:mv lr=((x%y:Nat):Int):=by
     have b4:=d4.bd.1
     rw[hx,hy] at d6
     rw[hy] at d7
     have hy1:(0:Int)<(y:Int):=by omega
     have:=(Int.ediv_emod_unique hy1 (a:=(x:Int)) (r:=mv lr) (q:=mv lq)).2 ⟨by rw[Int.mul_comm];omega,b4,d7⟩
     rw[←this.2];simp
    refine⟨eM y (x%y),[.b b2,.i (ny:Int),.r (rI ly),.b false,.i (nr:Int),.r (rI lr)],by rw[←he];exact que hy0,?_,y,x%y,b2,false,ny,nr,ly,lr,rfl,hw2,hn2,d4,d5,hy,hr,rfl,?_,ly1,?_⟩
    ·by_cases c1:nx≤1
     ·have c2:¬(ny:Int)≤1:=by omega
      have c1':(nx:Int)≤1:=by omega
      simp only[STD,a0,c1',c2,d1]
     ·have c1':¬(nx:Int)≤1:=by omega
      simp only[STD,a0,c1',d1]
    ·rw[←hg,Nat.gcd_comm y,←Nat.gcd_rec,Nat.gcd_comm]
    ·have:=Nat.mod_lt x (show 0<y by omega)
     omega) (ps:=[.b (decide (m<0)),.i (q1:Int),.r (rI l1),.b (decide (n<0)),.i (q2:Int),.r (rI l2)])
  ⟨m.natAbs,n.natAbs,_,_,q1,q2,l1,l2,rfl,w1,n1,w2,n2,v1,v2,rfl,rfl,lm,ln⟩
 rcases g2 with⟨rfl,b,n',l,rfl,a1,a2,a3⟩|⟨rfl,rfl⟩
 ·have hT:=qo6 a1 a2 false
  have hv:sv false l=((Nat.gcd m.natAbs n.natAbs:Nat):Int):=by unfold sv;rw[a3];rfl
  rw[hv,qa1] at hT
  simp only[STD,q8y hm hn,r1,r2,g1,wI g1,hT]
 ·simp only[STD,q8y hm hn,r1,r2,g1,wI g1,show ¬(1=0) by omega]
end Go.Eng

namespace Go.Eng
theorem q5e:okL 1:=by show nl 1≤1024;decide
theorem q4h:okL 0:=by show nl 0≤1024;decide
theorem qvp(s:List UInt8)(hl:s.length≤1000000000):(q1Z [.s s,.s [47]]).run=some (0,if sP s<s.length then [.s (s.take (sP s)),.s (s.drop (sP s+1)),.b true] else [.s s,.s [],.b false]):=by
 rw[qhH]
 have h:(zx [.s s,.s [47]]).run=some (0,if sP s<s.length then [.s (s.take (sP s)),.s (s.drop (sP s+1)),.b true] else [.s s,.s [],.b false]):=by
  rw[q59]
  have hI:=quv s
  by_cases hc:sP s<s.length
  ·rw[if_pos hc] at hI ⊢
   have w:ql .i64 (sP s:Int) (zt [47])=((sP s+1:Nat):Int):=by
    show ql .i64 (sP s:Int) 1=_
    rw[vC (by omega)];omega
   have a1:(0:Int)≤(sP s:Int)∧(sP s:Int)≤zt s:=by unfold zt;omega
   have a2:(0:Int)≤0∧(0:Int)≤(sP s:Int):=by omega
   have a3:(0:Int)≤zt s∧zt s≤zt s:=by unfold zt;omega
   have a4:(0:Int)≤((sP s+1:Nat):Int)∧((sP s+1:Nat):Int)≤zt s:=by unfold zt;omega
   have e1:qdF s 0 (sP s:Int)=s.take (sP s):=by unfold qdF;simp
   have e2:qdF s ((sP s+1:Nat):Int) (zt s)=s.drop (sP s+1):=by unfold qdF zt;simp only[Int.toNat_natCast];rw[List.take_length]
   simp only[STD,hI,a1.1,a1.2,a2,a3,a4,and_self,w,e1,e2]
  ·rw[if_neg hc] at hI ⊢
   have a:¬(0:Int)≤-1:=by omega
   simp only[STD,hI,a]
 by_cases hc:sP s<s.length
 ·rw[if_pos hc] at h ⊢
  simp only[STD,h]
 ·rw[if_neg hc] at h ⊢
  simp only[STD,h]
theorem qv1(s:List UInt8)(hl:s.length≤1000000000):(qA [.s s]).run=some (0,[.s (spn s),.s (spd s),.b (decide (sP s<s.length))]):=by
 rw[qkQ]
 have h:=qvp s hl
 unfold spn spd
 by_cases hc:sP s<s.length
 ·rw[if_pos hc] at h ⊢
  rw[decide_eq_true hc]
  simp only[STD,h]
 ·rw[if_neg hc] at h ⊢
  have:sP s=s.length:=by have:=qu8 s;omega
  rw[decide_eq_false hc,this,List.take_length]
  simp only[STD,h]
theorem quL(q:Rat):(sP (tQ q)<(tQ q).length)=(q.den≠1):=by
 by_cases h:q.den=1
 ·rw[q5J h,qmU (qhP _)];simp[h]
 ·rw[q2B h,qrE (qhP _)];simp[h]
def okQ(q:Rat):Prop:=qn q≤1024∧qd q≤1024
theorem q1c{q:Rat}(h:okQ q):okL q.num:=h.1
theorem yQ{q:Rat}(h:okQ q):okL (q.den:Int):=h.2
theorem qgs{q:Rat}(h:okQ q):(tQ q).length≤3000:=by have:=qvb q;have:=h.1;have:=h.2;omega
theorem q5a{q:Rat}(h:okQ q):(qA [.s (tQ q)]).run=some (0,[.s (tI q.num),.s (tI (q.den:Int)),.b (decide (q.den≠1))]):=by
 have:=qgs h
 rw[qv1 _ (by omega),qts,qtn,qa1]
 simp only[quL]
open Classical in
noncomputable def vI(s:List UInt8):Int:=if h:∃m:Int,s=tI m then h.choose else 0
theorem qqE(m:Int):vI (tI m)=m:=by
 unfold vI
 have h:∃k:Int,tI m=tI k:=⟨m,rfl⟩
 rw[dif_pos h]
 exact(qoe h.choose_spec).symm
theorem qjp{s:List UInt8}(h:qnC s=0):∃m:Int,s=tI m∧okL m:=by
 unfold qnC at h
 split at h
 ·rename_i hm
  obtain⟨m,rfl⟩:=hm
  rw[qlt] at h
  split at h
  ·rename_i hl;exact⟨m,rfl,hl⟩
  ·omega
 ·omega
theorem qkP(s:List UInt8):qnC s=0∨qnC s=3∨qnC s=11:=by
 unfold qnC
 split
 ·split<;>simp
 ·simp
noncomputable def qhJ(s:List UInt8):Int:=
 if qnC (spn s)=3 then 3 else if qnC (spd s)=3 then 3 else if qnC (spn s)≠0 then 11 else if qnC (spd s)≠0 then 11
 else if sP s<s.length then (if sgn (vI (spd s)-1)≤0 then 3 else if Nat.gcd (vI (spn s)).natAbs (vI (spd s)).natAbs=1 then 0 else 3) else 0
theorem quR(s:List UInt8):(spn s).length≤s.length:=by unfold spn;rw[List.length_take];omega
theorem qvg(s:List UInt8):(spd s).length≤s.length+1:=by unfold spd;split<;>simp<;>omega
theorem q4e(s:List UInt8)(hl:s.length≤100000000):(wx [.s s]).run=some (0,[.i (qhJ s)]):=by
 rw[qhu]
 have hn:=quR s
 have hd:=qvg s
 have h1:=q7U (spn s) (by omega)
 have h2:=q7U (spd s) (by omega)
 have hc:=qv1 s (by omega)
 have mx:qdt 11 0=11∧qdt 11 11=11∧qdt 0 11=11:=by decide
 unfold qhJ
 rcases qkP (spn s) with a|a|a<;>rcases qkP (spd s) with b|b|b<;>rw[a] at h1 ⊢<;>rw[b] at h2 ⊢
 ·obtain⟨m,em,om⟩:=qjp a
  obtain⟨n,en,on⟩:=qjp b
  rw[em] at h1 hc ⊢
  rw[en] at h2 hc ⊢
  have hC:=qgB on (n:=1) q5e
  rw[qv4] at hC
  have hG:=quK om on
  rw[qqE,qqE]
  by_cases hs:sP s<s.length
  ·by_cases ho:sgn (n-1)≤0
   ·simp only[STD,hc,h1,h2,hs,hC,hG,ho,show ¬((0:Int)=3) by omega,show ¬((0:Int)≠0) by omega]
   ·by_cases hg:Nat.gcd m.natAbs n.natAbs=1
    ·simp only[STD,hc,h1,h2,hs,hC,hG,ho,hg,vP,qay,show ¬((0:Int)=3) by omega,show ¬((0:Int)≠0) by omega]
    ·simp only[STD,hc,h1,h2,hs,hC,hG,ho,hg,vP,qay,show ¬((0:Int)=3) by omega,show ¬((0:Int)≠0) by omega]
  ·simp only[STD,hc,h1,h2,hs,show ¬((0:Int)=3) by omega,show ¬((0:Int)≠0) by omega]
 all_goals simp only[STD,hc,h1,h2,mx,show ¬((0:Int)=3) by omega,show ¬((11:Int)=3) by omega,show ¬((11:Int)=0) by omega,show ¬((3:Int)=0) by omega]
theorem qjM{q:Rat}(h:okQ q):qhJ (tQ q)=0:=by
 unfold qhJ
 have e1:spd (tQ q)=tI (q.den:Int):=by rw[qtn,qa1]
 rw[qts,e1,qn6 (q1c h),qn6 (yQ h)]
 simp only[qqE,quL]
 by_cases hd:q.den=1
 ·simp[hd]
 ·have:=q.den_nz
  have hs:¬sgn ((q.den:Int)-1)≤0:=by
   unfold sgn;rw[if_neg (by omega),if_neg (by omega)];omega
  have hr:Nat.gcd q.num.natAbs q.den=1:=q.reduced
  simp[hd,hs,hr]
theorem qtN{s:List UInt8}(h:qhJ s=0):∃q:Rat,s=tQ q∧okQ q:=by
 unfold qhJ at h
 split at h
 ·omega
 split at h
 ·omega
 split at h
 ·omega
 split at h
 ·omega
 rename_i h1 h2 h3 h4
 obtain⟨m,em,om⟩:=qjp (Decidable.byContradiction fun h=>h3 h)
 obtain⟨n,en,on⟩:=qjp (Decidable.byContradiction fun h=>h4 h)
 rw[em,en,qqE,qqE] at h
 split at h
 ·rename_i hs
  split at h
  ·omega
  rename_i hsg
  split at h
  ·rename_i hg
   have hn1:1<n:=by
    unfold sgn at hsg
    by_cases c1:n-1<0
    ·rw[if_pos c1] at hsg;omega
    ·rw[if_neg c1] at hsg
     by_cases c2:n-1=0
     ·rw[if_pos c2] at hsg;omega
     ·omega
   obtain⟨k,rfl⟩:∃k:Nat,n=(k:Int):=⟨n.toNat,by omega⟩
   refine⟨⟨m,k,by omega,hg⟩,?_,om,on⟩
   rw[q2B (show k≠1 by omega)]
   have hslash:s=spn s++47::spd s:=by
    unfold spn spd
    rw[if_pos hs]
    have h47:s[sP s]=47:=by
     have:=List.findIdx_getElem (p:=(·==47)) (w:=hs)
     exact eq_of_beq this
    rw[←h47,List.getElem_cons_drop,List.take_append_drop]
   rw[hslash,em,en,qa1]
  ·omega
 ·rename_i hs
  have e:sP s=s.length:=by have:=qu8 s;omega
  have hsn:spn s=s:=by unfold spn;rw[e,List.take_length]
  refine⟨(m:Rat),?_,?_,?_⟩
  ·rw[qrM,←em,hsn]
  ·have:nl m≤1024:=om
   unfold qn;simpa using this
  ·unfold qd;simp;decide
theorem qvL(m:Int):nl m≤(tI m).length:=by unfold nl tI;split<;>simp
theorem qgN(q:Rat):qn q≤(tQ q).length∧(q.den=1∨qn q+1+qd q≤(tQ q).length):=by
 have h1:=qvL q.num
 by_cases h:q.den=1
 ·rw[q5J h];exact⟨h1,.inl h⟩
 ·rw[q2B h]
  unfold qn qd dl
  simp
  omega
theorem qlI{l:List (List UInt8)}(hn:l.length<1000000)(h:∀s,s∈l→(wx [.s s]).run=some (0,[.i 0])):(qH [.r (rS l)]).run=some (0,[.i 0]):=by
 rw[qfU,qie]
 have key:=kZ (S:=uq) (fun i=>[.r (rS l),.i (l.length:Int),.i (i:Int)]) (0,[]) l.length (by omega) (fun i hi=>by
  rw[q7v,qqn hi]
  have a1:(i:Int)<(l.length:Int):=by omega
  have a2:(i:Int)<qh (rS l):=by rw[qie];exact a1
  simp only[STD,a1,a2,q3g,and_self,h _ (List.getElem_mem hi),qaU hi (show l.length<9223372036854775808 by omega)]) (by
  rw[q7v]
  have a1:¬(l.length:Int)<(l.length:Int):=by omega
  simp only[STD,a1])
 simp only[show (((0:Nat)):Int)=0 from rfl] at key
 simp only[STD,key,wI key]
theorem qah{q:Rat}(h:okQ q):(wx [.s (tQ q)]).run=some (0,[.i 0]):=by
 have:=qgs h
 rw[q4e _ (by omega),qjM h]
theorem qac{a b:Rat}(ha:okQ a)(hb:okQ b):(qH [.r [[.s (tQ a)],[.s (tQ b)]]]).run=some (0,[.i 0]):=by
 exact qlI (l:=[tQ a,tQ b]) (by simp) (fun s hs=>by
  simp only[List.mem_cons,List.not_mem_nil,or_false] at hs
  rcases hs with rfl|rfl
  ·exact qah ha
  ·exact qah hb)
theorem qtB{m n:Int}(hm:okL m)(hn:okL n)(h:okL (m+n)):(vE [.s (tI m),.s (tI n),.i 0]).run=some (0,[.s (tI (m+n)),.i 0]):=by
 rw[qe4]
 have:(zH [.s (tI m),.s (tI n),.i 0]).run=some (0,[.s (tI (m+n)),.i 0]):=by
  rw[q5H]
  simp only[STD,quO hm hn h]
 simp only[STD,this]
theorem qmQ{m n:Int}(hm:okL m)(hn:okL n)(h:okL (m-n)):(qT [.s (tI m),.s (tI n),.i 0]).run=some (0,[.s (tI (m-n)),.i 0]):=by
 rw[qet]
 have:(zL [.s (tI m),.s (tI n),.i 0]).run=some (0,[.s (tI (m-n)),.i 0]):=by
  rw[q5A]
  simp only[STD,qvW hm hn h]
 simp only[STD,this]
theorem qtC{m n:Int}(hm:okL m)(hn:okL n)(h:okL (m*n)):(ze [.s (tI m),.s (tI n),.i 0]).run=some (0,[.s (tI (m*n)),.i 0]):=by
 rw[q5F]
 simp only[STD,qvO hm hn h]
theorem qud{m n:Int}(hm:okL m)(hn:okL n):(zO [.s (tI m),.s (tI n),.i 0]).run=some (0,[.s (tN (Nat.gcd m.natAbs n.natAbs)),.i 0]):=by
 rw[q5D]
 simp only[STD,quK hm hn]
theorem qjc{k n:Int}(h0:n≠0)(hm:okL (k*n))(hn:okL n):(qG [.s (tI (k*n)),.s (tI n),.i 0]).run=some (0,[.s (tI k),.i 0]):=by
 rw[q5C]
 simp only[STD,qvZ h0 hm hn]
def prd:Int→List Int→Int
 | a,[]=>a
 | a,m::l=>prd (a*m) l
def qtE:Int→List Int→Prop
 | a,[]=>okL a
 | a,m::l=>okL a∧okL m∧qtE (a*m) l
theorem qrU:∀(l:List Int) (pre:List Int) (a:Int),qtE a l→pre.length+l.length<1000→∀f,l.length<f →
  (qcK vr f [.s (tI a),.r (rS ((pre++l).map tI)),.i ((pre++l).length:Int),.i (pre.length:Int),.i 0]).run=some (0,[.s (tI (prd a l)),.i 0])
 | [],pre,a,h,hl,f,hf=>by
  obtain⟨f,rfl⟩:∃g,f=g+1:=⟨f-1,by simp at hf;omega⟩
  refine q3o ?_
  rw[q51,List.append_nil]
  have a1:¬(pre.length:Int)<(pre.length:Int):=by omega
  simp only[STD,a1];rfl
 | m::l,pre,a,h,hl,f,hf=>by
  obtain⟨f,rfl⟩:∃g,f=g+1:=⟨f-1,by simp at hf;omega⟩
  obtain⟨h1,h2,h3⟩:=h
  have hlt:pre.length<(pre++m::l).length:=by simp
  have ih:=qrU l (pre++[m]) (a*m) h3 (by simp at hl ⊢;omega) f (by simp at hf;omega)
  rw[List.append_assoc,List.singleton_append] at ih
  have hok:okL (a*m):=by
   cases l with
   | nil=>exact h3
   | cons x l=>exact h3.1
  rw[qav (qs:=[.s (tI (a*m)),.r (rS ((pre++m::l).map tI)),.i ((pre++m::l).length:Int),.i ((pre++[m]).length:Int),.i 0])]
  ·exact ih
  ·rw[q51]
   have hlt2:pre.length<((pre++m::l).map tI).length:=by simp
   rw[qqn hlt2]
   have e:((pre++m::l).map tI)[pre.length]=tI m:=by simp
   rw[e]
   have a1:(pre.length:Int)<((pre++m::l).length:Int):=by omega
   have a2:(pre.length:Int)<qh (rS ((pre++m::l).map tI)):=by rw[qie];omega
   have w:ql .i64 (pre.length:Int) 1=((pre++[m]).length:Int):=by
    rw[vC (by omega)];simp
   simp only[STD,a1,a2,q3g,and_self,qtC h1 h2 hok,w]
theorem qlR(l:List Int)(h:qtE 1 l)(hl:l.length<1000):(qg [.r (rS (l.map tI)),.i 0]).run=some (0,[.s (tI (prd 1 l)),.i 0]):=by
 rw[qeu,qie]
 have h1:=qrU l [] 1 h (by simp;omega) q9j (by unfold q9j;omega)
 simp only[List.nil_append,List.length_nil] at h1
 have e:(qw vr [.s [49],.r (rS (l.map tI)),.i ((l.map tI).length:Int),.i 0,.i 0]).run=some (0,[.s (tI (prd 1 l)),.i 0]):=by
  rw[List.length_map]
  exact h1
 simp only[STD,e]
theorem q6W{m n:Int}(hm:okL m)(hn:okL n)(h:okL (m*n)):(qg [.r [[.s (tI m)],[.s (tI n)]],.i 0]).run=some (0,[.s (tI (m*n)),.i 0]):=by
 have:=qlR [m,n] ⟨q5e,hm,by rw[Int.one_mul];exact hm,hn,by rw[Int.one_mul];exact h⟩ (by simp)
 simp only[prd,Int.one_mul] at this
 exact this
theorem qlX{q:Rat}(h:okQ q):(uH [.s (tI q.num),.s (tI (q.den:Int))]).run=some (0,[.s (tQ q)]):=by
 rw[qfY,qa1]
 have l1:=qmm (q1c h)
 have l2:(tN q.den).length≤1024:=h.2
 have a1:zt (tI q.num)+zt [47]≤140737488355328:=by unfold zt;simp;omega
 have a2:zt (qlH (tI q.num) [47])+zt (tN q.den)≤140737488355328:=by unfold zt qlH;simp;omega
 by_cases h1:q.den=1
 ·simp only[STD,vP,qay,h1,q5J h1]
 ·simp only[STD,vP,qay,h1,q2B h1,a1,a2]
  simp[qlH]
theorem qsE(s:List UInt8):(jk [.s s,.s [45]]).run=some (0,[.b (decide (s.getD 0 0=45))]):=by
 rw[qaS]
 simp only[STD,qrT]
theorem qq0(n:Int):((tI n).getD 0 0=45)=(n<0):=by
 by_cases h:n<0
 ·rw[q8w h];simp[h]
 ·rw[qcI h]
  obtain⟨c,t,e,h1,h2⟩:=qaz (vX n.natAbs) (qhs _)
  rw[e]
  simp only[List.getD_cons_zero,h,eq_iff_iff,iff_false]
  intro hc;subst hc;revert h1;decide
theorem qcJ{m n:Int}(hn0:n≠0)(hm:okL m)(hn:okL n):(qp [.s (tI m),.s (tI n),.i 0]).run=some (0,[.s (tQ (Rat.divInt m n)),.i 0])∧okQ (Rat.divInt m n):=by
 have hG:=qud hm hn
 have hg0:0<Nat.gcd m.natAbs n.natAbs:=Nat.gcd_pos_of_pos_right _ (by omega)
 have hgn:Nat.gcd m.natAbs n.natAbs≤n.natAbs:=Nat.gcd_le_right _ (by omega)
 have hnum:=Rat.num_divInt m n
 have hden:=Rat.den_divInt m n
 rw[if_neg hn0] at hden
 have hgc:Int.gcd n m=Nat.gcd m.natAbs n.natAbs:=by unfold Int.gcd;exact Nat.gcd_comm _ _
 rw[hgc] at hnum hden
 obtain⟨k,hk⟩:((Nat.gcd m.natAbs n.natAbs:Nat):Int) ∣ m:=Int.ofNat_dvd_left.2 (Nat.gcd_dvd_left _ _)
 obtain⟨l,hl⟩:((Nat.gcd m.natAbs n.natAbs:Nat):Int) ∣ n:=Int.ofNat_dvd_left.2 (Nat.gcd_dvd_right _ _)
 generalize Nat.gcd m.natAbs n.natAbs=g at *
 generalize Rat.divInt m n=q at *
 have hgok:okL (g:Int):=qtp (by simpa using hgn) hn
 have hm2:k*(g:Int)=m:=by rw[Int.mul_comm];exact hk.symm
 have hn2:l*(g:Int)=n:=by rw[Int.mul_comm];exact hl.symm
 have hgz:(g:Int)≠0:=by omega
 have hok:okQ q:=by
  constructor
  ·refine Nat.le_trans (qa3 ?_) hm
   rw[hnum]
   refine Nat.le_trans (Int.natAbs_ediv_le_natAbs _ _) ?_
   rw[Int.natAbs_mul,Int.natAbs_sign_of_ne_zero hn0];omega
  ·refine Nat.le_trans (q7X ?_) hn
   rw[hden];exact Nat.div_le_self _ _
 refine⟨?_,hok⟩
 rw[qaV]
 have hP:=qsE (tI n)
 simp only[qq0] at hP
 by_cases hneg:n<0
 ·have e1:-k=q.num:=by
   rw[hnum,Int.sign_eq_neg_one_of_neg hneg,←hm2]
   rw[show (-1:Int)*(k*(g:Int))=(-k)*(g:Int) by rw[Int.neg_mul,Int.one_mul,Int.neg_mul]]
   exact(Int.mul_ediv_cancel _ hgz).symm
  have e2:-l=(q.den:Int):=by
   rw[hden]
   have h3:(n.natAbs:Int)=(-l)*(g:Int):=by rw[Int.neg_mul];omega
   rw[Int.natCast_ediv,h3,Int.mul_ediv_cancel _ hgz]
  have hS:=qmQ (m:=0) (n:=(g:Int)) q4h hgok (by rw[Int.zero_sub];exact qjY hgok)
  rw[Int.zero_sub,qa1] at hS
  have Q1:=qjc (k:=-k) (n:=-(g:Int)) (by omega) (by rw[Int.neg_mul_neg,hm2];exact hm) (qjY hgok)
  have Q2:=qjc (k:=-l) (n:=-(g:Int)) (by omega) (by rw[Int.neg_mul_neg,hn2];exact hn) (qjY hgok)
  rw[Int.neg_mul_neg,hm2,e1] at Q1
  rw[Int.neg_mul_neg,hn2,e2] at Q2
  have hS':(qT [.s [48],.s (tN g),.i 0]).run=some (0,[.s (tI (-(g:Int))),.i 0]):=hS
  simp only[STD,hG,hP,hneg,hS',Q1,Q2,qlX hok]
 ·have e1:k=q.num:=by
   rw[hnum,Int.sign_eq_one_of_pos (by omega),Int.one_mul,←hm2]
   exact(Int.mul_ediv_cancel _ hgz).symm
  have e2:l=(q.den:Int):=by
   rw[hden]
   have h3:(n.natAbs:Int)=l*(g:Int):=by omega
   rw[Int.natCast_ediv,h3,Int.mul_ediv_cancel _ hgz]
  have Q1:=qjc (k:=k) (n:=(g:Int)) hgz (by rw[hm2];exact hm) hgok
  have Q2:=qjc (k:=l) (n:=(g:Int)) hgz (by rw[hn2];exact hn) hgok
  rw[hm2,e1,qa1] at Q1
  rw[hn2,e2,qa1] at Q2
  simp only[STD,hG,hP,hneg,Q1,Q2,qlX hok]
end Go.Eng

namespace Go.Eng
theorem qoX(a b:Rat):Rat.divInt (a.num*b.den+b.num*a.den) ((a.den:Int)*(b.den:Int))=a+b:=by
 rw[Rat.add_def',←Rat.divInt_ofNat];simp
theorem qp5(a b:Rat):Rat.divInt (a.num*b.den-b.num*a.den) ((a.den:Int)*(b.den:Int))=a-b:=by
 rw[Rat.sub_def',←Rat.divInt_ofNat];simp
theorem qoC(a b:Rat):Rat.divInt (a.num*b.num) ((a.den:Int)*(b.den:Int))=a*b:=by
 rw[Rat.mul_def',←Rat.divInt_ofNat];simp
theorem qpE(a b:Rat):Rat.divInt (a.num*b.den) ((a.den:Int)*b.num)=a/b:=by
 rw[Rat.div_def,Rat.inv_def,←Rat.divInt_mul_divInt,Rat.num_divInt_den]
theorem qev(a b:Rat):(a.den:Int)*(b.den:Int)≠0:=by have:=Int.mul_pos (qsT a) (qsT b);omega
theorem qvD{m:Int}(h:m≠0):¬tI m=[48]:=by rw[q2n];exact h
def bnd(N D:Nat)(q:Rat):Prop:=qn q≤N∧qd q≤D
theorem bnd.ok{N D:Nat}{q:Rat}(h:bnd N D q)(hN:N≤1024)(hD:D≤1024):okQ q:=⟨Nat.le_trans h.1 hN,Nat.le_trans h.2 hD⟩
theorem bnd.mono{N D N' D':Nat}{q:Rat}(h:bnd N D q)(hN:N≤N')(hD:D≤D'):bnd N' D' q:=⟨Nat.le_trans h.1 hN,Nat.le_trans h.2 hD⟩
theorem bnd.mul{N D N' D':Nat}{a b:Rat}(ha:bnd N D a)(hb:bnd N' D' b):bnd (N+N') (D+D') (a*b):=
 ⟨Nat.le_trans (qth a b) (Nat.add_le_add ha.1 hb.1),Nat.le_trans (qtw a b) (Nat.add_le_add ha.2 hb.2)⟩
theorem bnd.add{N D N' D' K:Nat}{a b:Rat}(ha:bnd N D a)(hb:bnd N' D' b)(h1:N+D'+1≤K)(h2:N'+D+1≤K):bnd K (D+D') (a+b):=
 ⟨by have:=quI a b;have:=ha.1;have:=ha.2;have:=hb.1;have:=hb.2;omega,by have:=qv2 a b;have:=ha.2;have:=hb.2;omega⟩
theorem bnd.sub{N D N' D' K:Nat}{a b:Rat}(ha:bnd N D a)(hb:bnd N' D' b)(h1:N+D'+1≤K)(h2:N'+D+1≤K):bnd K (D+D') (a-b):=
 ⟨by have:=quX a b;have:=ha.1;have:=ha.2;have:=hb.1;have:=hb.2;omega,by have:=qvB a b;have:=ha.2;have:=hb.2;omega⟩
theorem bnd.div{N D N' D':Nat}{a b:Rat}(h0:b≠0)(ha:bnd N D a)(hb:bnd N' D' b):bnd (N+D') (D+N') (a/b):=
 ⟨by have:=qvA a h0;have:=ha.1;have:=hb.2;omega,by have:=quM a h0;have:=ha.2;have:=hb.1;omega⟩
theorem bnd.neg{N D:Nat}{a:Rat}(h:bnd N D a):bnd N D (-a):=⟨by rw[quY];exact h.1,h.2⟩
theorem q5L:bnd 1 1 0:=⟨by decide,by decide⟩
theorem qjN:bnd 1 1 2:=⟨by decide,by decide⟩
theorem q6B{m n:Int}{N M:Nat}(hm:nl m≤N)(hn:nl n≤M)(h:N+M≤1024):okL (m*n):=by
 have:=q1l m n
 unfold okL;omega
theorem qh2{N D N' D':Nat}{a b:Rat}(ha:bnd N D a)(hb:bnd N' D' b)(h1:N+N'≤1024)(h2:D+D'≤1024):(ul [.s (tQ a),.s (tQ b)]).run=some (0,[.s (tQ (a*b)),.i 0]):=by
 have oa:=ha.ok (by omega) (by omega)
 have ob:=hb.ok (by omega) (by omega)
 have k1:okL (a.num*b.num):=q6B ha.1 hb.1 h1
 have k2:okL ((a.den:Int)*(b.den:Int)):=q6B ha.2 hb.2 h2
 have m1:=q6W (q1c oa) (q1c ob) k1
 have m2:=q6W (yQ oa) (yQ ob) k2
 have hL:=(qcJ (qev a b) k1 k2).1
 rw[qoC] at hL
 rw[qkK]
 have key:(wi [.s (tQ a),.s (tQ b)]).run=some (0,[.s (tQ (a*b)),.i 0]):=by
  rw[q6o]
  have h1:(q07 [.s (tI a.num),.s (tI (a.den:Int)),.s (tI b.num),.s (tI (b.den:Int)),.i 0]).run=some (0,[.s (tI (a.num*b.num)),.s (tI ((a.den:Int)*(b.den:Int))),.i 0]):=by
   rw[qi5]
   simp only[STD,m1,m2]
  simp only[STD,qac oa ob,q5a oa,q5a ob,h1,vP,qvD (qev a b),hL]
 simp only[STD,key]
theorem qmr{N D N' D':Nat}{a b:Rat}(ha:bnd N D a)(hb:bnd N' D' b)(h1:N+D'≤1023)(h2:N'+D≤1023)(h3:D+D'≤1024):(q2E [.s (tQ a),.s (tQ b)]).run=some (0,[.s (tQ (a+b)),.i 0]):=by
 have p1:=qhq a
 have p2:=qhq b
 have p3:=qob a
 have p4:=qob b
 have oa:okQ a:=⟨by have:=ha.1;have:=hb.2;omega,by have:=ha.2;have:=hb.2;omega⟩
 have ob:okQ b:=⟨by have:=hb.1;have:=ha.2;omega,by have:=ha.2;have:=hb.2;omega⟩
 have k1:okL (a.num*(b.den:Int)):=q6B ha.1 hb.2 (by omega)
 have k2:okL (b.num*(a.den:Int)):=q6B hb.1 ha.2 (by omega)
 have k3:okL ((a.den:Int)*(b.den:Int)):=q6B ha.2 hb.2 h3
 have k4:okL (a.num*(b.den:Int)+b.num*(a.den:Int)):=by
  have q1:=qov (a.num*(b.den:Int)) (b.num*(a.den:Int))
  have q2:=q1l a.num (b.den:Int)
  have q3:=q1l b.num (a.den:Int)
  have q4:nl a.num≤N:=ha.1
  have q5:nl (b.den:Int)≤D':=hb.2
  have q6:nl b.num≤N':=hb.1
  have q7:nl (a.den:Int)≤D:=ha.2
  unfold okL;omega
 have m1:=q6W (q1c oa) (yQ ob) k1
 have m2:=q6W (q1c ob) (yQ oa) k2
 have m3:=q6W (yQ oa) (yQ ob) k3
 have hL:=(qcJ (qev a b) k4 k3).1
 rw[qoX] at hL
 rw[qkC]
 have key:(wj [.s (tQ a),.s (tQ b)]).run=some (0,[.s (tQ (a+b)),.i 0]):=by
  rw[q6q]
  have h1:(q03 [.s (tI a.num),.s (tI (a.den:Int)),.s (tI b.num),.s (tI (b.den:Int)),.i 0]).run=some (0,[.s (tI (a.num*b.den+b.num*a.den)),.s (tI ((a.den:Int)*(b.den:Int))),.i 0]):=by
   rw[qhz]
   simp only[STD,m1,m2,m3,qtB k1 k2 k4]
  simp only[STD,qac oa ob,q5a oa,q5a ob,h1,vP,qvD (qev a b),hL]
 simp only[STD,key]
theorem qmH{N D N' D':Nat}{a b:Rat}(ha:bnd N D a)(hb:bnd N' D' b)(h1:N+D'≤1023)(h2:N'+D≤1023)(h3:D+D'≤1024):(q2y [.s (tQ a),.s (tQ b)]).run=some (0,[.s (tQ (a-b)),.i 0]):=by
 have p1:=qhq a
 have p2:=qhq b
 have p3:=qob a
 have p4:=qob b
 have oa:okQ a:=⟨by have:=ha.1;have:=hb.2;omega,by have:=ha.2;have:=hb.2;omega⟩
 have ob:okQ b:=⟨by have:=hb.1;have:=ha.2;omega,by have:=ha.2;have:=hb.2;omega⟩
 have k1:okL (a.num*(b.den:Int)):=q6B ha.1 hb.2 (by omega)
 have k2:okL (b.num*(a.den:Int)):=q6B hb.1 ha.2 (by omega)
 have k3:okL ((a.den:Int)*(b.den:Int)):=q6B ha.2 hb.2 h3
 have k4:okL (a.num*(b.den:Int)-b.num*(a.den:Int)):=by
  have q1:=qqk (a.num*(b.den:Int)) (b.num*(a.den:Int))
  have q2:=q1l a.num (b.den:Int)
  have q3:=q1l b.num (a.den:Int)
  have q4:nl a.num≤N:=ha.1
  have q5:nl (b.den:Int)≤D':=hb.2
  have q6:nl b.num≤N':=hb.1
  have q7:nl (a.den:Int)≤D:=ha.2
  unfold okL;omega
 have m1:=q6W (q1c oa) (yQ ob) k1
 have m2:=q6W (q1c ob) (yQ oa) k2
 have m3:=q6W (yQ oa) (yQ ob) k3
 have hL:=(qcJ (qev a b) k4 k3).1
 rw[qp5] at hL
 rw[qla]
 have key:(wk [.s (tQ a),.s (tQ b)]).run=some (0,[.s (tQ (a-b)),.i 0]):=by
  rw[q6J]
  have h1:(kP [.s (tI a.num),.s (tI (a.den:Int)),.s (tI b.num),.s (tI (b.den:Int)),.i 0]).run=some (0,[.s (tI (a.num*b.den-b.num*a.den)),.s (tI ((a.den:Int)*(b.den:Int))),.i 0]):=by
   rw[qhx]
   simp only[STD,m1,m2,m3,qmQ k1 k2 k4]
  simp only[STD,qac oa ob,q5a oa,q5a ob,h1,vP,qvD (qev a b),hL]
 simp only[STD,key]
theorem qgA(q:Rat):(tQ q=[48])=(q=0):=by
 have:([48]:List UInt8)=tQ 0:=rfl
 rw[this,qps]
theorem qnb{N D N' D':Nat}{a b:Rat}(hb0:b≠0)(ha:bnd N D a)(hb:bnd N' D' b)(h1:N+D'≤1024)(h2:D+N'≤1024):(q2m [.s (tQ a),.s (tQ b)]).run=some (0,[.s (tQ (a/b)),.i 0]):=by
 have oa:okQ a:=⟨by have:=ha.1;omega,by have:=ha.2;omega⟩
 have ob:okQ b:=⟨by have:=hb.1;omega,by have:=hb.2;omega⟩
 have k1:okL (a.num*(b.den:Int)):=q6B ha.1 hb.2 h1
 have k2:okL ((a.den:Int)*b.num):=q6B ha.2 hb.1 h2
 have hbn:b.num≠0:=fun h=>hb0 (Rat.num_eq_zero.1 h)
 have hz:(a.den:Int)*b.num≠0:=by have:=qsT a;exact Int.mul_ne_zero (by omega) hbn
 have m1:=q6W (q1c oa) (yQ ob) k1
 have m2:=q6W (yQ oa) (q1c ob) k2
 have hL:=(qcJ hz k1 k2).1
 rw[qpE] at hL
 rw[qkr]
 have key:(wd [.s (tQ a),.s (tQ b)]).run=some (0,[.s (tQ (a/b)),.i 0]):=by
  rw[q6u]
  have h1:(kY [.s (tI a.num),.s (tI (a.den:Int)),.s (tI b.num),.s (tI (b.den:Int)),.i 0]).run=some (0,[.s (tI (a.num*b.den)),.s (tI ((a.den:Int)*b.num)),.i 0]):=by
   rw[qi4]
   simp only[STD,m1,m2]
  simp only[STD,qac oa ob,q5a oa,q5a ob,h1,vP,qvD hz,hL]
 simp only[STD,qac oa ob,vP,qgA,hb0,key]
theorem q3E{m:Int}(h:okL m):(qU [.s (tI m),.i 0]).run=some (0,[.i (sgn m),.i 0]):=by
 rw[qdp]
 simp only[STD,qkE h]
theorem quc(m:Int):sgn m=sgq (m:Rat):=by unfold sgq;simp
theorem qnt{q k:Rat}(hk:0<k):sgq (k*q)=sgq q:=by
 rcases q71 q with⟨h,e⟩|⟨h,e⟩|⟨h,e⟩
 ·rw[e,qtb]
  have:=(Rat.mul_neg_iff_of_pos_left hk).2 h
  exact this
 ·rw[e,h,Rat.mul_zero];rfl
 ·rw[e,qmi]
  exact Rat.mul_pos hk h
theorem q08(a:Rat):(0:Rat)<(a.den:Rat):=by
 have:=a.den_nz
 exact Rat.natCast_pos.2 (by omega)
theorem q8P(a:Rat):(a.num:Rat)=a*(a.den:Rat):=by
 have h:a=(a.num:Rat)/(a.den:Rat):=by rw[←Rat.mkRat_eq_div,Rat.mkRat_self]
 have h2:=Rat.div_mul_cancel (a:=(a.num:Rat)) (b:=(a.den:Rat)) (by have:=q08 a;grind)
 rw[←h] at h2
 exact h2.symm
def rX(a b c:Rat):Int:=a.num*b.den*c.den
def rY(a b:Rat):Int:=b.num*a.den
def rR(c:Rat):Int:=c.num*c.den
theorem qvx(a b c:Rat):sgn (rX a b c)=sgq a:=by
 unfold rX sgq
 rw[q7I (qsT c),q7I (qsT b)]
theorem qvn(a b:Rat):sgn (rY a b)=sgq b:=by unfold rY sgq;rw[q7I (qsT a)]
theorem qvt(c:Rat):sgn (rR c)=sgq c:=by unfold rR sgq;rw[q7I (qsT c)]
theorem qvC(a b c:Rat):sgn (rX a b c*rX a b c-rY a b*rY a b*rR c)=sgq (a*a-b*b*c):=by
 rw[quc]
 have h1:=q08 a
 have h2:=q08 b
 have h3:=q08 c
 have hk:(0:Rat)<((a.den:Rat)*b.den*c.den)*((a.den:Rat)*b.den*c.den):=by
  have:=Rat.mul_pos (Rat.mul_pos h1 h2) h3
  exact Rat.mul_pos this this
 rw[←qnt (q:=a*a-b*b*c) hk]
 congr 1
 unfold rX rY rR
 simp only[Rat.intCast_sub,Rat.intCast_mul,q8P,Rat.intCast_natCast]
 grind
theorem qr0(a b c:Rat):qaR a b c=if 0≤sgn (rX a b c)*(sgn (rY a b)*sgn (rR c)) then (if sgn (rX a b c)=0 then sgn (rY a b)*sgn (rR c) else sgn (rX a b c)) else sgn (rX a b c)*sgn (rX a b c*rX a b c-rY a b*rY a b*rR c):=by
 unfold qaR
 rw[qvx,qvn,qvt,qvC]
theorem quh{x y r:Int}(hx:okL x)(hy:okL y)(hr:okL r)(hxx:okL (x*x))(hyy:okL (y*y))(hyr:okL (y*y*r))(hd:okL (x*x-y*y*r)) :
  (jb [.s (tI x),.s (tI y),.s (tI r),.i 0]).run=some (0,[.i (if 0≤sgn x*(sgn y*sgn r) then (if sgn x=0 then sgn y*sgn r else sgn x) else sgn x*sgn (x*x-y*y*r)),.i 0]):=by
 rw[qcV]
 have bx:=qh8 x
 have bY:=qh8 y
 have br:=qh8 r
 have bd:=qh8 (x*x-y*y*r)
 have m1:=q6W hx hx hxx
 have m2:=qlR [y,y,r] ⟨q5e,hy,by rw[Int.one_mul];exact hy,hy,by rw[Int.one_mul];exact hyy,hr,by rw[Int.one_mul];exact hyr⟩ (by simp)
 simp only[prd,Int.one_mul] at m2
 have m2':(qg [.r [[.s (tI y)],[.s (tI y)],[.s (tI r)]],.i 0]).run=some (0,[.s (tI (y*y*r)),.i 0]):=m2
 by_cases hc:0≤sgn x*(sgn y*sgn r)
 ·by_cases h0:sgn x=0
  ·have w0:yW .i64 0 (sgn y*sgn r)=0:=by rw[q3z (by rw[Int.zero_mul];omega),Int.zero_mul]
   simp only[STD,q3E hx,q3E hy,q3E hr,qeb bY br,h0,w0,Int.zero_mul,Int.le_refl,eq_self]
  ·simp only[STD,q3E hx,q3E hy,q3E hr,qeb bY br,qeb bx (qvN bY br),hc,h0]
 ·simp only[STD,q3E hx,q3E hy,q3E hr,qeb bY br,qeb bx (qvN bY br),hc,m1,m2',qmQ hxx hyr hd,q3E hd,qeb bx bd]
theorem qny(m:Int):okL (0*m):=by rw[Int.zero_mul];exact q4h
theorem quq{c:Rat}(h:0≤c):¬(tQ c).getD 0 0=45:=by
 have hn:¬c.num<0:=by have:=Rat.num_nonneg.2 h;omega
 have e:(tQ c).getD 0 0=(tI c.num).getD 0 0:=by
  by_cases hd:c.den=1
  ·rw[q5J hd]
  ·rw[q2B hd]
   obtain⟨x,t,ex⟩:∃x t,tI c.num=x::t:=List.exists_cons_of_ne_nil (List.length_pos_iff.1 (qkD _))
   rw[ex];simp
 rw[e,qq0];exact hn
theorem qve{c:Rat}(h:c<0):(tQ c).getD 0 0=45:=by
 have h1:¬0≤c:=by grind
 have hn:c.num<0:=by
  have h2:¬0≤c.num:=fun h=>h1 (Rat.num_nonneg.1 h)
  omega
 have e:(tQ c).getD 0 0=(tI c.num).getD 0 0:=by
  by_cases hd:c.den=1
  ·rw[q5J hd]
  ·rw[q2B hd]
   obtain⟨x,t,ex⟩:∃x t,tI c.num=x::t:=List.exists_cons_of_ne_nil (List.length_pos_iff.1 (qkD _))
   rw[ex];simp
 rw[e,qq0];exact hn
theorem qdC(s:List UInt8):(sat s 0=45)=(s.getD 0 0=45):=by
 unfold sat
 simp only[Int.toNat_zero,eq_iff_iff]
 exact⟨fun h=>UInt8.toNat_inj.1 (by show (s.getD 0 0).toNat=45;omega),fun h=>by rw[h];rfl⟩
structure RootOk (a b c:Rat):Prop where
 oa:okQ a
 ob:okQ b
 oc:okQ c
 x1:okL (a.num*b.den)
 x:okL (rX a b c)
 y:okL (rY a b)
 r:okL (rR c)
 xx:okL (rX a b c*rX a b c)
 yy:okL (rY a b*rY a b)
 yr:okL (rY a b*rY a b*rR c)
 d:okL (rX a b c*rX a b c-rY a b*rY a b*rR c)
theorem qoy{a b c:Rat}(h:RootOk a b c)(hc:0≤c):(uo [.s (tQ a),.s (tQ b),.s (tQ c)]).run=some (0,[.i (qaR a b c),.i 0]):=by
 rw[qeh]
 have key:(yA [.s (tQ a),.s (tQ b),.s (tQ c),.s [48],.s [48]]).run=some (0,[.i (qaR a b c),.i 0]):=by
  rw[qcB]
  have o0:okQ 0:=q5L.ok (by omega) (by omega)
  have hz:=qah o0
  rw[show tQ 0=[48] from rfl] at hz
  have hch:=qlI (l:=[tQ a,tQ b,tQ c,[48],[48]]) (by simp) (fun s hs=>by
   simp only[List.mem_cons,List.not_mem_nil,or_false] at hs
   rcases hs with rfl|rfl|rfl|rfl|rfl
   ·exact qah h.oa
   ·exact qah h.ob
   ·exact qah h.oc
   ·exact hz
   ·exact hz)
  have hch':(qH [.r [[.s (tQ a)],[.s (tQ b)],[.s (tQ c)],[.s [48]],[.s [48]]]]).run=some (0,[.i 0]):=hch
  have c0:=q5a o0
  rw[show tQ 0=[48] from rfl] at c0
  replace c0:(qA [.s [48]]).run=some (0,[.s [48],.s [49],.b false]):=c0
  have l1:(0:Int)<zt (tQ c):=by
   have h1:=qgN c
   have h2:=qhq c
   unfold zt;omega
  have l2:(0:Int)<zt [48]:=by decide
  have n1:¬sat (tQ c) 0=45:=by rw[qdC];exact quq hc
  have n2:¬sat [48] 0=45:=by decide
  have mx:=qlR [a.num,b.den,c.den,1,1] ⟨q5e,q1c h.oa,by rw[Int.one_mul];exact q1c h.oa,yQ h.ob,by rw[Int.one_mul];exact h.x1,yQ h.oc,by rw[Int.one_mul];exact h.x,q5e,by rw[Int.one_mul,Int.mul_one];exact h.x,q5e,by rw[Int.one_mul,Int.mul_one,Int.mul_one];exact h.x⟩ (by simp)
  have my:=qlR [b.num,a.den,1,1] ⟨q5e,q1c h.ob,by rw[Int.one_mul];exact q1c h.ob,yQ h.oa,by rw[Int.one_mul];exact h.y,q5e,by rw[Int.one_mul,Int.mul_one];exact h.y,q5e,by rw[Int.one_mul,Int.mul_one,Int.mul_one];exact h.y⟩ (by simp)
  have mr:=q6W (q1c h.oc) (yQ h.oc) h.r
  have mz:=qlR [0,a.den,b.den,c.den] ⟨q5e,q4h,by rw[Int.mul_zero];exact q4h,yQ h.oa,by simp only[Int.mul_zero];exact qny _,yQ h.ob,by simp only[Int.mul_zero,Int.zero_mul];exact q4h,yQ h.oc,by simp only[Int.mul_zero,Int.zero_mul];exact q4h⟩ (by simp)
  have mt:=q6W (m:=0) (n:=1) q4h q5e (qny _)
  simp only[prd,Int.one_mul,Int.mul_one,Int.zero_mul] at mx my mz mt
  have mx':(qg [.r [[.s (tI a.num)],[.s (tI (b.den:Int))],[.s (tI (c.den:Int))],[.s [49]],[.s [49]]],.i 0]).run=some (0,[.s (tI (rX a b c)),.i 0]):=mx
  have my':(qg [.r [[.s (tI b.num)],[.s (tI (a.den:Int))],[.s [49]],[.s [49]]],.i 0]).run=some (0,[.s (tI (rY a b)),.i 0]):=my
  have mr':(qg [.r [[.s (tI c.num)],[.s (tI (c.den:Int))]],.i 0]).run=some (0,[.s (tI (rR c)),.i 0]):=mr
  have mz':(qg [.r [[.s [48]],[.s (tI (a.den:Int))],[.s (tI (b.den:Int))],[.s (tI (c.den:Int))]],.i 0]).run=some (0,[.s (tI 0),.i 0]):=mz
  have mt':(qg [.r [[.s [48]],[.s [49]]],.i 0]).run=some (0,[.s (tI 0),.i 0]):=mt
  have hR:=quh h.x h.y h.r h.xx h.yy h.yr h.d
  rw[←qr0] at hR
  have w1:yW .i64 (sgn 0) (sgn 0)=0:=by decide
  have w2:yW .i64 (qaR a b c) 0=0:=by rw[q3z (by rw[Int.mul_zero];omega),Int.mul_zero]
  by_cases h0:qaR a b c=0
  ·simp only[STD,hch',l1,l2,n1,n2,Int.le_refl,and_self,q5a h.oa,q5a h.ob,q5a h.oc,c0,mx',my',mr',mz',mt',hR,q3E q4h,w1,h0,show yW .i64 0 0=0 from rfl]
  ·simp only[STD,hch',l1,l2,n1,n2,Int.le_refl,and_self,q5a h.oa,q5a h.ob,q5a h.oc,c0,mx',my',mr',mz',mt',hR,q3E q4h,w1,w2,h0]
 simp only[STD,key]
theorem RootOk.of{N D N' D' R E:Nat}{a b c:Rat}(ha:bnd N D a)(hb:bnd N' D' b)(hc:bnd R E c)(h1:2*(N+D'+E)≤1023)(h2:2*(N'+D)+R+E≤1023):RootOk a b c:=by
 have q1:nl a.num≤N:=ha.1
 have q2:nl (a.den:Int)≤D:=ha.2
 have q3:nl b.num≤N':=hb.1
 have q4:nl (b.den:Int)≤D':=hb.2
 have q5:nl c.num≤R:=hc.1
 have q6:nl (c.den:Int)≤E:=hc.2
 have x1:=q1l a.num b.den
 have x2:=q1l (a.num*b.den) c.den
 have y1:=q1l b.num a.den
 have r1:=q1l c.num c.den
 have xx:=q1l (rX a b c) (rX a b c)
 have yy:=q1l (rY a b) (rY a b)
 have yr:=q1l (rY a b*rY a b) (rR c)
 have dd:=qqk (rX a b c*rX a b c) (rY a b*rY a b*rR c)
 have e1:nl (rX a b c)=nl (a.num*b.den*c.den):=rfl
 have e2:nl (rY a b)=nl (b.num*a.den):=rfl
 have e3:nl (rR c)=nl (c.num*c.den):=rfl
 have p1:=qgg a.num
 have p2:=qgg b.num
 have p3:=qgg c.num
 have p4:=qgg (a.den:Int)
 have p5:=qgg (b.den:Int)
 have p6:=qgg (c.den:Int)
 exact { oa:=⟨by show nl a.num≤1024;omega,by show nl (a.den:Int)≤1024;omega⟩,ob:=⟨by show nl b.num≤1024;omega,by show nl (b.den:Int)≤1024;omega⟩,oc:=⟨by show nl c.num≤1024;omega,by show nl (c.den:Int)≤1024;omega⟩,x1:=by unfold okL;omega,x:=by unfold okL;omega,y:=by unfold okL;omega,r:=by unfold okL;omega,xx:=by unfold okL;omega,yy:=by unfold okL;omega,yr:=by unfold okL;omega,d:=by unfold okL;omega }
end Go.Eng

namespace Go.Eng
theorem qrb{a b:Rat}{N D N' D':Nat}(ha:bnd N D a)(hb:bnd N' D' b)(h1:N+D'≤1023)(h2:N'+D≤1023)(h3:D+D'≤1024):(z7 [.s (tQ a),.s (tQ b),.i 0]).run=some (0,[.s (tQ (a+b)),.i 0]):=by
 rw[qdR]
 have:(zE [.s (tQ a),.s (tQ b),.i 0]).run=some (0,[.s (tQ (a+b)),.i 0]):=by
  rw[q5B]
  simp only[STD,qmr ha hb h1 h2 h3]
 simp only[STD,this]
theorem qmu{a b:Rat}{N D N' D':Nat}(ha:bnd N D a)(hb:bnd N' D' b)(h1:N+D'≤1023)(h2:N'+D≤1023)(h3:D+D'≤1024):(qK [.s (tQ a),.s (tQ b),.i 0]).run=some (0,[.s (tQ (a-b)),.i 0]):=by
 rw[qei]
 have:(zI [.s (tQ a),.s (tQ b),.i 0]).run=some (0,[.s (tQ (a-b)),.i 0]):=by
  rw[q5G]
  simp only[STD,qmH ha hb h1 h2 h3]
 simp only[STD,this]
theorem qlO{a b:Rat}{N D N' D':Nat}(ha:bnd N D a)(hb:bnd N' D' b)(h1:N+N'≤1024)(h2:D+D'≤1024):(qJ [.s (tQ a),.s (tQ b),.i 0]).run=some (0,[.s (tQ (a*b)),.i 0]):=by
 rw[qem]
 have:(zR [.s (tQ a),.s (tQ b),.i 0]).run=some (0,[.s (tQ (a*b)),.i 0]):=by
  rw[q5E]
  simp only[STD,qh2 ha hb h1 h2]
 simp only[STD,this]
theorem quP{a b:Rat}{N D N' D':Nat}(h0:b≠0)(ha:bnd N D a)(hb:bnd N' D' b)(h1:N+D'≤1024)(h2:D+N'≤1024):(zf [.s (tQ a),.s (tQ b),.i 0]).run=some (0,[.s (tQ (a/b)),.i 0]):=by
 rw[q5z]
 simp only[STD,qnb h0 ha hb h1 h2]
theorem qtc{ax ay bx by_:Rat}{N D N' D':Nat}(h1:bnd N D ax)(h2:bnd N D ay)(h3:bnd N' D' bx)(h4:bnd N' D' by_)(c1:N+D'≤1023)(c2:N'+D≤1023)(c3:D+D'≤1024) :
  (wP [.s (tQ ax),.s (tQ ay),.s (tQ bx),.s (tQ by_),.i 0]).run=some (0,[.s (tQ (ax-bx)),.s (tQ (ay-by_)),.i 0]):=by
 rw[qdo]
 simp only[STD,qmu h1 h3 c1 c2 c3,qmu h2 h4 c1 c2 c3]
theorem qsN{ax ay bx by_:Rat}{N D N' D':Nat}(h1:bnd N D ax)(h2:bnd N D ay)(h3:bnd N' D' bx)(h4:bnd N' D' by_)(c1:N+N'+(D+D')≤1023)(c2:D+D'+(D+D')≤1024) :
  (zT [.s (tQ ax),.s (tQ ay),.s (tQ bx),.s (tQ by_),.i 0]).run=some (0,[.s (tQ (ax*bx+ay*by_)),.i 0]):=by
 rw[qdN]
 simp only[STD,qlO h1 h3 (by omega) (by omega),qlO h2 h4 (by omega) (by omega),qrb (h1.mul h3) (h2.mul h4) (by omega) (by omega) (by omega)]
theorem qjz{ax ay bx by_:Rat}{N D N' D':Nat}(h1:bnd N D ax)(h2:bnd N D ay)(h3:bnd N' D' bx)(h4:bnd N' D' by_):bnd (N+N'+(D+D')+1) (D+D'+(D+D')) (ax*bx+ay*by_):=
 (h1.mul h3).add (h2.mul h4) (by omega) (by omega)
def q1t(ax ay bx by_:Rat):Rat:=(ax-bx)*(ax-bx)+(ay-by_)*(ay-by_)
theorem q5Y{a b:Rat}(ha:bnd 12 10 a)(hb:bnd 12 10 b):bnd 23 20 (a-b):=ha.sub hb (by omega) (by omega)
theorem qjf{ax ay bx by_:Rat}(h1:bnd 12 10 ax)(h2:bnd 12 10 ay)(h3:bnd 12 10 bx)(h4:bnd 12 10 by_):bnd 87 80 (q1t ax ay bx by_):=
 qjz (q5Y h1 h3) (q5Y h2 h4) (q5Y h1 h3) (q5Y h2 h4)
structure DQ where
 x:Rat
 y:Rat
 s:Rat
def DQ.sh(d:DQ):Prop:=bnd 12 10 d.x∧bnd 12 10 d.y∧bnd 13 10 d.s
def qvX(a b:DQ)(k:Rat):Int:=qaR (q1t a.x a.y b.x b.y-(a.s+b.s)) k (a.s*b.s)
theorem qvq{a b c:Rat}(h:RootOk a b c)(hc:0≤c):(yS [.s (tQ a),.s (tQ b),.s (tQ c),.i 0]).run=some (0,[.i (qaR a b c),.i 0]):=by
 rw[qdm]
 simp only[STD,qoy h hc]
theorem qpi(a:Rat):qaR a 0 0=sgq a:=by
 unfold qaR
 rw[show sgq 0=0 from rfl,Int.mul_zero,Int.mul_zero,if_pos (by omega)]
 split
 ·rename_i h;rw[h]
 ·rfl
theorem qtq:tQ 2=[50]:=qsB 2
def qpV(a b:DQ):Prop:=a.s≤b.s∧qvX a b 2≤0
instance (a b:DQ):Decidable (qpV a b):=by unfold qpV;infer_instance
def shT(s:List UInt8):Prop:=s.length≤12
noncomputable def qtO(x y s:List UInt8):Int:=if qhJ x≠0 then qhJ x else if qhJ y≠0 then qhJ y else if qhJ s≠0 then qhJ s else if s.getD 0 0=45 then 2 else 0
theorem qvK{S:List PV→TR}{st:Nat→List PV}{e0 e1 e2:Int}{fin:List PV}
  (h0:(S (st 0)).run=if e0=0 then some (0,st 1) else some (2,[.i e0])) (h1:(S (st 1)).run=if e1=0 then some (0,st 2) else some (2,[.i e1])) (h2:(S (st 2)).run=if e2=0 then some (0,st 3) else some (2,[.i e2]))
  (h3:(S (st 3)).run=some (1,fin)):(qw S (st 0)).run=some (if e0≠0 then (1,[.i e0]) else if e1≠0 then (1,[.i e1]) else if e2≠0 then (1,[.i e2]) else (0,fin)):=by
 have hr:∃m,q9j=m+4:=⟨q9j-4,by unfold q9j;omega⟩
 obtain⟨m,hm⟩:=hr
 unfold qw
 rw[hm]
 by_cases c0:e0=0
 ·rw[if_pos c0] at h0
  rw[qav h0]
  by_cases c1:e1=0
  ·rw[if_pos c1] at h1
   rw[qav h1]
   by_cases c2:e2=0
   ·rw[if_pos c2] at h2
    rw[qav h2,q3o h3]
    simp[c0,c1,c2]
   ·rw[if_neg c2] at h2
    rw[q3o h2]
    simp[c0,c1,c2]
  ·rw[if_neg c1] at h1
   rw[q3o h1]
   simp[c0,c1]
 ·rw[if_neg c0] at h0
  rw[q3o h0]
  simp[c0]
theorem qjX(x y s:List UInt8)(h1:x.length≤1000000)(h2:y.length≤1000000)(h3:s.length≤1000000):(kU [.s x,.s y,.s s]).run=some (0,[.i (qtO x y s)]):=by
  rw[qhQ]
  have c0:=q4e x (by omega)
  have c1:=q4e y (by omega)
  have c2:=q4e s (by omega)
  have d0:cS [[.s x],[.s y],[.s s]] 0 0=x:=rfl
  have d1:cS [[.s x],[.s y],[.s s]] 1 0=y:=rfl
  have d2:cS [[.s x],[.s y],[.s s]] 2 0=s:=rfl
  have d3:qh [[U.s x],[U.s y],[U.s s]]=3:=rfl
  have w0:ql .i64 0 1=1:=by decide
  have w1:ql .i64 1 1=2:=by decide
  have w2:ql .i64 2 1=3:=by decide
  have key:=qvK (S:=kt) (st:=fun i=>[.i 3,.i (i:Int),.s x,.s y,.s s,.r [[.s x],[.s y],[.s s]]]) (e0:=qhJ x) (e1:=qhJ y) (e2:=qhJ s) (fin:=[.s x,.s y,.s s])
    (by rw [q0P]; simp only [show (((0 : Nat)) : Int) = 0 from rfl, show (((1 : Nat)) : Int) = 1 from rfl, d0, d3]
        by_cases c:qhJ x=0
        · simp only[STD,c0,c,w0,show (0:Int)<3 by omega,Int.le_refl,and_self]
        · simp only[STD,c0,c,show (0:Int)<3 by omega,Int.le_refl,and_self])
    (by rw [q0P]; simp only [show (((1 : Nat)) : Int) = 1 from rfl, show (((2 : Nat)) : Int) = 2 from rfl, d1, d3]
        by_cases c:qhJ y=0
        · simp only[STD,c1,c,w1,show (1:Int)<3 by omega,show (0:Int)≤1 by omega,and_self]
        · simp only[STD,c1,c,show (1:Int)<3 by omega,show (0:Int)≤1 by omega,and_self])
    (by rw [q0P]; simp only [show (((2 : Nat)) : Int) = 2 from rfl, show (((3 : Nat)) : Int) = 3 from rfl, d2, d3]
        by_cases c:qhJ s=0
        · simp only[STD,c2,c,w2,show (2:Int)<3 by omega,show (0:Int)≤2 by omega,and_self]
        · simp only[STD,c2,c,show (2:Int)<3 by omega,show (0:Int)≤2 by omega,and_self])
    (by rw[q0P];simp only[show (((3:Nat)):Int)=3 from rfl];simp only[STD,show ¬(3:Int)<3 by omega])
  simp only[show (((0:Nat)):Int)=0 from rfl] at key
  unfold qtO
  rw[d3]
  by_cases e0:qhJ x=0
  · by_cases e1:qhJ y=0
    · by_cases e2:qhJ s=0
      · simp only[e0,e1,e2,ne_eq,not_true,if_false] at key ⊢
        obtain⟨q,hq,_⟩:=qtN e2
        have hl:(0:Int)<zt s:=by
          have h1:=qgN q
          have h2:=qhq q
          rw[hq];unfold zt;omega
        by_cases hm:s.getD 0 0=45
        · simp only[STD,key,wI key,Int.le_refl,hl,and_self,qdC,hm]
        · simp only[STD,key,wI key,Int.le_refl,hl,and_self,qdC,hm]
      · simp only[e0,e1,e2,ne_eq,not_true,not_false_eq_true,if_false,if_true] at key ⊢
        simp only[STD,key,wI key,show ¬(1=0) by omega]
    · simp only[e0,e1,ne_eq,not_true,not_false_eq_true,if_false,if_true] at key ⊢
      simp only[STD,key,wI key,show ¬(1=0) by omega]
  · simp only[e0,ne_eq,not_false_eq_true,if_true] at key ⊢
    simp only[STD,key,wI key,show ¬(1=0) by omega]
theorem qur{d:DQ}(h1:okQ d.x)(h2:okQ d.y)(h3:okQ d.s)(h:0≤d.s):qtO (tQ d.x) (tQ d.y) (tQ d.s)=0:=by
 unfold qtO
 rw[qjM h1,qjM h2,qjM h3]
 have:=quq h
 rw[if_neg (by simp),if_neg (by simp),if_neg (by simp),if_neg this]
end Go.Eng

namespace Go.Eng
def Bd(C e:Nat)(x:Int):Prop:=x.natAbs≤C*10^e
theorem Bd.mul{C e C' e':Nat}{x y:Int}(h:Bd C e x)(h':Bd C' e' y):Bd (C*C') (e+e') (x*y):=by
 unfold Bd at *
 rw[Int.natAbs_mul,Nat.pow_add]
 have:=Nat.mul_le_mul h h'
 have e1:C*10^e*(C'*10^e')=C*C'*(10^e*10^e'):=by
  rw[Nat.mul_mul_mul_comm]
 omega
theorem Bd.mono{C e C' e':Nat}{x:Int}(h:Bd C e x)(hC:C≤C')(he:e≤e'):Bd C' e' x:=by
 unfold Bd at *
 exact Nat.le_trans h (Nat.mul_le_mul hC (Nat.pow_le_pow_right (by omega) he))
theorem Bd.add{C C' e:Nat}{x y:Int}(h:Bd C e x)(h':Bd C' e y):Bd (C+C') e (x+y):=by
 unfold Bd at *
 rw[Nat.add_mul]
 have:=Int.natAbs_add_le x y
 omega
theorem Bd.neg{C e:Nat}{x:Int}(h:Bd C e x):Bd C e (-x):=by unfold Bd at *;rw[Int.natAbs_neg];exact h
theorem Bd.sub{C C' e:Nat}{x y:Int}(h:Bd C e x)(h':Bd C' e y):Bd (C+C') e (x-y):=by
 rw[Int.sub_eq_add_neg];exact h.add h'.neg
theorem Bd.okL{C e k:Nat}{x:Int}(h:Bd C e x)(hC:C≤10^k)(he:k+e≤1023)(hne:0<e+k):okL x:=by
 unfold Go.Eng.okL nl
 unfold Bd at h
 have h1:C*10^e≤10^k*10^e:=Nat.mul_le_mul_right _ hC
 rw[←Nat.pow_add] at h1
 have h2:(10:Nat)^(k+e)<10^(k+e+1):=Nat.pow_lt_pow_right (by omega) (by omega)
 have:=q7s (k+e) x.natAbs (by omega)
 omega
structure Wt (h v:Nat) (q:Rat):Prop where
 n:Bd 1 h q.num
 d:Bd 1 v (q.den:Int)
 dh:Bd 1 h (q.den:Int)
theorem qfu{q:Rat}{P M:Int}(hM:M≠0)(h:q*(M:Rat)=(P:Rat)):q.num.natAbs≤P.natAbs∧q.den≤M.natAbs:=by
 have hM':(M:Rat)≠0:=by
  intro e
  exact hM (Rat.intCast_inj.1 (e.trans (by simp)))
 have e:q=Rat.divInt P M:=by
  rw[Rat.divInt_eq_div,←h]
  exact(Rat.mul_div_cancel hM').symm
 rw[e]
 constructor
 ·rw[Rat.num_divInt]
  refine Nat.le_trans (Int.natAbs_ediv_le_natAbs _ _) ?_
  rw[Int.natAbs_mul,Int.natAbs_sign_of_ne_zero hM];omega
 ·rw[Rat.den_divInt,if_neg hM]
  exact Nat.div_le_self _ _
structure SQ where
 fx:Rat
 fy:Rat
 ax:Rat
 ay:Rat
 h:Rat
def qj(a b:DQ)(neg:Bool):SQ:=
 let dx:=b.x-a.x
 let dy:=b.y-a.y
 let far:=dx*dx+dy*dy
 let t:=(far+a.s-b.s)/(2*far)
 ⟨a.x+t*dx,a.y+t*dy,if neg then dy else 0-dy,if neg then 0-dx else dx,a.s/far-t*t⟩
def kA(d:DQ)(p:SQ):Rat:=(p.fx-d.x)*(p.fx-d.x)+(p.fy-d.y)*(p.fy-d.y)+p.h*(p.ax*p.ax+p.ay*p.ay)-d.s
def kB(d:DQ)(p:SQ):Rat:=2*((p.fx-d.x)*p.ax+(p.fy-d.y)*p.ay)
def uA(d:DQ)(p:SQ):Prop:=qaR (kA d p) (kB d p) p.h≤0
instance (d:DQ) (p:SQ):Decidable (uA d p):=by unfold uA;infer_instance
section
variable (a1 p1 b1 q1 c1 r1 a2 p2 b2 q2 c2 r2 a3 p3 b3 q3 c3 r3:Int)
def iU:Int:=a2*p1-a1*p2
def iN:Int:=iU a1 p1 a2 p2*iU a1 p1 a2 p2*((q1*q2)*(q1*q2))+iU b1 q1 b2 q2*iU b1 q1 b2 q2*((p1*p2)*(p1*p2))
def iD:Int:=(p1*p2*(q1*q2))*(p1*p2*(q1*q2))
def iT:Int:=iN a1 p1 b1 q1 a2 p2 b2 q2*(r1*r2)+(c1*r2-c2*r1)*iD p1 q1 p2 q2
def iE:Int:=a1*p3-a3*p1
def iG:Int:=iE a1 p1 a3 p3*iE a1 p1 a3 p3*((q1*q3)*(q1*q3))+iE b1 q1 b3 q3*iE b1 q1 b3 q3*((p1*p3)*(p1*p3))
def iH:Int:=iE a1 p1 a3 p3*iU a1 p1 a2 p2*((q1*q1)*(q2*q3))+iE b1 q1 b3 q3*iU b1 q1 b2 q2*((p1*p1)*(p2*p3))
def iSq:Int:=((p1*q1)*(p3*q3))*((p1*q1)*(p3*q3))
def iA:Int:=iG a1 p1 b1 q1 a3 p3 b3 q3*iN a1 p1 b1 q1 a2 p2 b2 q2*(r1*r2*r3)*(p2*q2)+iT a1 p1 b1 q1 c1 r1 a2 p2 b2 q2 c2 r2*iH a1 p1 b1 q1 a2 p2 b2 q2 a3 p3 b3 q3*r3*(p3*q3)
 + c1*iN a1 p1 b1 q1 a2 p2 b2 q2*(r2*r3)*iSq p1 q1 p3 q3*(p2*q2)-c3*iN a1 p1 b1 q1 a2 p2 b2 q2*(r1*r2)*iSq p1 q1 p3 q3*(p2*q2)
def iM:Int:=iN a1 p1 b1 q1 a2 p2 b2 q2*(r1*r2*r3)*iSq p1 q1 p3 q3*(p2*q2)
def iK:Int:=2*(iE b1 q1 b3 q3*iU a1 p1 a2 p2*(p3*q2)-iE a1 p1 a3 p3*iU b1 q1 b2 q2*(q3*p2))
def iQ:Int:=(p1*p2*p3)*(q1*q2*q3)
def iCn:Int:=4*(c1*iD p1 q1 p2 q2*iN a1 p1 b1 q1 a2 p2 b2 q2*r1*(r2*r2))-iT a1 p1 b1 q1 c1 r1 a2 p2 b2 q2 c2 r2*iT a1 p1 b1 q1 c1 r1 a2 p2 b2 q2 c2 r2
def iCd:Int:=4*(iN a1 p1 b1 q1 a2 p2 b2 q2*iN a1 p1 b1 q1 a2 p2 b2 q2)*((r1*r2)*(r1*r2))
end
section
variable {a1 p1 b1 q1 c1 r1 a2 p2 b2 q2 c2 r2 a3 p3 b3 q3 c3 r3:Int} {hx1 hy1 hs1 hx2 hy2 hs2 hx3 hy3 hs3 vx1 vy1 vs1 vx2 vy2 vs2 vx3 vy3 vs3:Nat}
theorem bU(h1:Bd 1 hx1 a1)(h2:Bd 1 hx1 p1)(h3:Bd 1 hx2 a2)(h4:Bd 1 hx2 p2):Bd 2 (hx1+hx2) (iU a1 p1 a2 p2):=
 ((h3.mul h2).mono (Nat.le_refl _) (by omega)).sub (h1.mul h4)
theorem bE(h1:Bd 1 hx1 a1)(h2:Bd 1 hx1 p1)(h3:Bd 1 hx3 a3)(h4:Bd 1 hx3 p3):Bd 2 (hx1+hx3) (iE a1 p1 a3 p3):=
 (h1.mul h4).sub ((h3.mul h2).mono (Nat.le_refl _) (by omega))
theorem bN(x1:Bd 1 hx1 a1)(x1':Bd 1 hx1 p1)(y1:Bd 1 hy1 b1)(y1':Bd 1 hy1 q1)(x2:Bd 1 hx2 a2)(x2':Bd 1 hx2 p2)(y2:Bd 1 hy2 b2)(y2':Bd 1 hy2 q2) :
  Bd 8 (2*(hx1+hx2+hy1+hy2)) (iN a1 p1 b1 q1 a2 p2 b2 q2):=by
 have u:=bU x1 x1' x2 x2'
 have v:=bU y1 y1' y2 y2'
 have qq:=y1'.mul y2'
 have pp:=x1'.mul x2'
 exact(((u.mul u).mul (qq.mul qq)).mono (C':=4) (by omega) (by omega)).add (((v.mul v).mul (pp.mul pp)).mono (C':=4) (by omega) (by omega))
theorem bD(x1':Bd 1 hx1 p1)(y1':Bd 1 hy1 q1)(x2':Bd 1 hx2 p2)(y2':Bd 1 hy2 q2):Bd 1 (2*(hx1+hx2+hy1+hy2)) (iD p1 q1 p2 q2):=by
 have z:=(x1'.mul x2').mul (y1'.mul y2')
 exact(z.mul z).mono (by omega) (by omega)
theorem bT(x1:Bd 1 hx1 a1)(x1':Bd 1 hx1 p1)(y1:Bd 1 hy1 b1)(y1':Bd 1 hy1 q1)(x2:Bd 1 hx2 a2)(x2':Bd 1 hx2 p2)(y2:Bd 1 hy2 b2)(y2':Bd 1 hy2 q2)
  (s1:Bd 1 hs1 c1) (s1':Bd 1 hs1 r1) (s2:Bd 1 hs2 c2) (s2':Bd 1 hs2 r2):Bd 10 (2*(hx1+hx2+hy1+hy2)+hs1+hs2) (iT a1 p1 b1 q1 c1 r1 a2 p2 b2 q2 c2 r2):=by
 have n:=bN x1 x1' y1 y1' x2 x2' y2 y2'
 have d:=bD x1' y1' x2' y2'
 have s:=(s1.mul s2').sub ((s2.mul s1').mono (Nat.le_refl _) (by omega))
 exact((n.mul (s1'.mul s2')).mono (C':=8) (by omega) (by omega)).add ((s.mul d).mono (C':=2) (by omega) (by omega))
theorem bG(x1:Bd 1 hx1 a1)(x1':Bd 1 hx1 p1)(y1:Bd 1 hy1 b1)(y1':Bd 1 hy1 q1)(x3:Bd 1 hx3 a3)(x3':Bd 1 hx3 p3)(y3:Bd 1 hy3 b3)(y3':Bd 1 hy3 q3) :
  Bd 8 (2*(hx1+hx3+hy1+hy3)) (iG a1 p1 b1 q1 a3 p3 b3 q3):=by
 have u:=bE x1 x1' x3 x3'
 have v:=bE y1 y1' y3 y3'
 have qq:=y1'.mul y3'
 have pp:=x1'.mul x3'
 exact(((u.mul u).mul (qq.mul qq)).mono (C':=4) (by omega) (by omega)).add (((v.mul v).mul (pp.mul pp)).mono (C':=4) (by omega) (by omega))
theorem bH(x1:Bd 1 hx1 a1)(x1':Bd 1 hx1 p1)(y1:Bd 1 hy1 b1)(y1':Bd 1 hy1 q1)(x2:Bd 1 hx2 a2)(x2':Bd 1 hx2 p2)(y2:Bd 1 hy2 b2)(y2':Bd 1 hy2 q2)
  (x3:Bd 1 hx3 a3) (x3':Bd 1 hx3 p3) (y3:Bd 1 hy3 b3) (y3':Bd 1 hy3 q3):Bd 8 (2*hx1+hx2+hx3+2*hy1+hy2+hy3) (iH a1 p1 b1 q1 a2 p2 b2 q2 a3 p3 b3 q3):=by
 have u:=bU x1 x1' x2 x2'
 have v:=bU y1 y1' y2 y2'
 have e:=bE x1 x1' x3 x3'
 have f:=bE y1 y1' y3 y3'
 exact(((e.mul u).mul ((y1'.mul y1').mul (y2'.mul y3'))).mono (C':=4) (by omega) (by omega)).add (((f.mul v).mul ((x1'.mul x1').mul (x2'.mul x3'))).mono (C':=4) (by omega) (by omega))
theorem bSq(x1':Bd 1 hx1 p1)(y1':Bd 1 hy1 q1)(x3':Bd 1 hx3 p3)(y3':Bd 1 hy3 q3):Bd 1 (2*(hx1+hx3+hy1+hy3)) (iSq p1 q1 p3 q3):=by
 have z:=(x1'.mul y1').mul (x3'.mul y3')
 exact(z.mul z).mono (by omega) (by omega)
theorem bA(x1:Bd 1 hx1 a1)(x1':Bd 1 hx1 p1)(y1:Bd 1 hy1 b1)(y1':Bd 1 hy1 q1)(x2:Bd 1 hx2 a2)(x2':Bd 1 hx2 p2)(y2:Bd 1 hy2 b2)(y2':Bd 1 hy2 q2)
  (x3:Bd 1 hx3 a3) (x3':Bd 1 hx3 p3) (y3:Bd 1 hy3 b3) (y3':Bd 1 hy3 q3) (s1:Bd 1 hs1 c1) (s1':Bd 1 hs1 r1) (s2:Bd 1 hs2 c2) (s2':Bd 1 hs2 r2) (s3:Bd 1 hs3 c3) (s3':Bd 1 hs3 r3) :
  Bd 160 (4*hx1+3*hx2+2*hx3+4*hy1+3*hy2+2*hy3+hs1+hs2+hs3) (iA a1 p1 b1 q1 c1 r1 a2 p2 b2 q2 c2 r2 a3 p3 b3 q3 c3 r3):=by
 have g:=bG x1 x1' y1 y1' x3 x3' y3 y3'
 have n:=bN x1 x1' y1 y1' x2 x2' y2 y2'
 have t:=bT x1 x1' y1 y1' x2 x2' y2 y2' s1 s1' s2 s2'
 have h:=bH x1 x1' y1 y1' x2 x2' y2 y2' x3 x3' y3 y3'
 have sq:=bSq x1' y1' x3' y3'
 have k1:=(((g.mul n).mul ((s1'.mul s2').mul s3')).mul (x2'.mul y2')).mono (C':=64) (e':=4*hx1+3*hx2+2*hx3+4*hy1+3*hy2+2*hy3+hs1+hs2+hs3) (by omega) (by omega)
 have k2:=(((t.mul h).mul s3').mul (x3'.mul y3')).mono (C':=80) (e':=4*hx1+3*hx2+2*hx3+4*hy1+3*hy2+2*hy3+hs1+hs2+hs3) (by omega) (by omega)
 have k3:=((((s1.mul n).mul (s2'.mul s3')).mul sq).mul (x2'.mul y2')).mono (C':=8) (e':=4*hx1+3*hx2+2*hx3+4*hy1+3*hy2+2*hy3+hs1+hs2+hs3) (by omega) (by omega)
 have k4:=((((s3.mul n).mul (s1'.mul s2')).mul sq).mul (x2'.mul y2')).mono (C':=8) (e':=4*hx1+3*hx2+2*hx3+4*hy1+3*hy2+2*hy3+hs1+hs2+hs3) (by omega) (by omega)
 exact((k1.add k2).add k3).sub k4
theorem bM(x1:Bd 1 hx1 a1)(x1':Bd 1 hx1 p1)(y1:Bd 1 hy1 b1)(y1':Bd 1 hy1 q1)(x2:Bd 1 hx2 a2)(x2':Bd 1 hx2 p2)(y2:Bd 1 hy2 b2)(y2':Bd 1 hy2 q2)
  (wx1:Bd 1 vx1 p1) (wy1:Bd 1 vy1 q1) (wx2:Bd 1 vx2 p2) (wy2:Bd 1 vy2 q2) (wx3:Bd 1 vx3 p3) (wy3:Bd 1 vy3 q3) (ws1:Bd 1 vs1 r1) (ws2:Bd 1 vs2 r2) (ws3:Bd 1 vs3 r3) :
  Bd 8 (2*(hx1+hx2+hy1+hy2)+(vs1+vs2+vs3)+2*(vx1+vx3+vy1+vy3)+(vx2+vy2)) (iM a1 p1 b1 q1 r1 a2 p2 b2 q2 r2 p3 q3 r3):=by
 have n:=bN x1 x1' y1 y1' x2 x2' y2 y2'
 have sq:=bSq wx1 wy1 wx3 wy3
 exact(((n.mul ((ws1.mul ws2).mul ws3)).mul sq).mul (wx2.mul wy2)).mono (by omega) (by omega)
theorem bK(x1:Bd 1 hx1 a1)(x1':Bd 1 hx1 p1)(y1:Bd 1 hy1 b1)(y1':Bd 1 hy1 q1)(x2:Bd 1 hx2 a2)(x2':Bd 1 hx2 p2)(y2:Bd 1 hy2 b2)(y2':Bd 1 hy2 q2)
  (x3:Bd 1 hx3 a3) (x3':Bd 1 hx3 p3) (y3:Bd 1 hy3 b3) (y3':Bd 1 hy3 q3):Bd 16 (hx1+hx2+hx3+hy1+hy2+hy3) (iK a1 p1 b1 q1 a2 p2 b2 q2 a3 p3 b3 q3):=by
 have u:=bU x1 x1' x2 x2'
 have v:=bU y1 y1' y2 y2'
 have e:=bE x1 x1' x3 x3'
 have f:=bE y1 y1' y3 y3'
 have two:Bd 2 0 2:=by unfold Bd;decide
 have k1:=((f.mul u).mul (x3'.mul y2')).mono (C':=4) (e':=hx1+hx2+hx3+hy1+hy2+hy3) (by omega) (by omega)
 have k2:=((e.mul v).mul (y3'.mul x2')).mono (C':=4) (e':=hx1+hx2+hx3+hy1+hy2+hy3) (by omega) (by omega)
 exact(two.mul (k1.sub k2)).mono (by omega) (by omega)
theorem bQ(wx1:Bd 1 vx1 p1)(wy1:Bd 1 vy1 q1)(wx2:Bd 1 vx2 p2)(wy2:Bd 1 vy2 q2)(wx3:Bd 1 vx3 p3)(wy3:Bd 1 vy3 q3):Bd 1 (vx1+vx2+vx3+(vy1+vy2+vy3)) (iQ p1 q1 p2 q2 p3 q3):=
 (((wx1.mul wx2).mul wx3).mul ((wy1.mul wy2).mul wy3)).mono (by omega) (by omega)
theorem bCn(x1:Bd 1 hx1 a1)(x1':Bd 1 hx1 p1)(y1:Bd 1 hy1 b1)(y1':Bd 1 hy1 q1)(x2:Bd 1 hx2 a2)(x2':Bd 1 hx2 p2)(y2:Bd 1 hy2 b2)(y2':Bd 1 hy2 q2)
  (s1:Bd 1 hs1 c1) (s1':Bd 1 hs1 r1) (s2:Bd 1 hs2 c2) (s2':Bd 1 hs2 r2):Bd 132 (4*(hx1+hx2+hy1+hy2)+2*hs1+2*hs2) (iCn a1 p1 b1 q1 c1 r1 a2 p2 b2 q2 c2 r2):=by
 have n:=bN x1 x1' y1 y1' x2 x2' y2 y2'
 have d:=bD x1' y1' x2' y2'
 have t:=bT x1 x1' y1 y1' x2 x2' y2 y2' s1 s1' s2 s2'
 have four:Bd 4 0 4:=by unfold Bd;decide
 have k1:=(four.mul ((((s1.mul d).mul n).mul s1').mul (s2'.mul s2'))).mono (C':=32) (e':=4*(hx1+hx2+hy1+hy2)+2*hs1+2*hs2) (by omega) (by omega)
 have k2:=(t.mul t).mono (C':=100) (e':=4*(hx1+hx2+hy1+hy2)+2*hs1+2*hs2) (by omega) (by omega)
 exact k1.sub k2
theorem bCd(x1:Bd 1 hx1 a1)(x1':Bd 1 hx1 p1)(y1:Bd 1 hy1 b1)(y1':Bd 1 hy1 q1)(x2:Bd 1 hx2 a2)(x2':Bd 1 hx2 p2)(y2:Bd 1 hy2 b2)(y2':Bd 1 hy2 q2)
  (ws1:Bd 1 vs1 r1) (ws2:Bd 1 vs2 r2):Bd 256 (4*(hx1+hx2+hy1+hy2)+2*vs1+2*vs2) (iCd a1 p1 b1 q1 r1 a2 p2 b2 q2 r2):=by
 have n:=bN x1 x1' y1 y1' x2 x2' y2 y2'
 have four:Bd 4 0 4:=by unfold Bd;decide
 exact((four.mul (n.mul n)).mul ((ws1.mul ws2).mul (ws1.mul ws2))).mono (by omega) (by omega)
end
section
variable (a b d:DQ)
theorem qoa(q:Rat):(q.den:Rat)≠0:=by have:=q08 q;grind
theorem qmx(neg:Bool)(hf:(b.x-a.x)*(b.x-a.x)+(b.y-a.y)*(b.y-a.y)≠0) :
  kA d (qj a b neg)*((iM a.x.num a.x.den a.y.num a.y.den a.s.den b.x.num b.x.den b.y.num b.y.den b.s.den d.x.den d.y.den d.s.den:Int):Rat)=((iA a.x.num a.x.den a.y.num a.y.den a.s.num a.s.den b.x.num b.x.den b.y.num b.y.den b.s.num b.s.den d.x.num d.x.den d.y.num d.y.den d.s.num d.s.den:Int):Rat) ∧
  kB d (qj a b neg)*((iQ a.x.den a.y.den b.x.den b.y.den d.x.den d.y.den:Int):Rat)=(((if neg then -1 else 1)*iK a.x.num a.x.den a.y.num a.y.den b.x.num b.x.den b.y.num b.y.den d.x.num d.x.den d.y.num d.y.den:Int):Rat) ∧
  (qj a b neg).h*((iCd a.x.num a.x.den a.y.num a.y.den a.s.den b.x.num b.x.den b.y.num b.y.den b.s.den:Int):Rat)=((iCn a.x.num a.x.den a.y.num a.y.den a.s.num a.s.den b.x.num b.x.den b.y.num b.y.den b.s.num b.s.den:Int):Rat) ∧
  iN a.x.num a.x.den a.y.num a.y.den b.x.num b.x.den b.y.num b.y.den≠0:=by
 obtain⟨far,hfar⟩:∃far,far=(b.x-a.x)*(b.x-a.x)+(b.y-a.y)*(b.y-a.y):=⟨_,rfl⟩
 obtain⟨t,ht⟩:∃t,t=(far+a.s-b.s)/(2*far):=⟨_,rfl⟩
 obtain⟨h,hh⟩:∃h,h=a.s/far-t*t:=⟨_,rfl⟩
 rw[←hfar] at hf
 have h2f:2*far≠0:=by grind
 have ht':2*far*t=far+a.s-b.s:=by
  rw[ht,Rat.mul_comm];exact Rat.div_mul_cancel h2f
 have hh':far*h=a.s-far*(t*t):=by
  have:a.s/far*far=a.s:=Rat.div_mul_cancel hf
  rw[hh];grind
 have hc:qj a b neg=⟨a.x+t*(b.x-a.x),a.y+t*(b.y-a.y),if neg then b.y-a.y else 0-(b.y-a.y),if neg then 0-(b.x-a.x) else b.x-a.x,h⟩:=by
  rw[hh,ht,hfar];rfl
 rw[hc]
 have nx1:=q8P a.x
 have ny1:=q8P a.y
 have ns1:=q8P a.s
 have nx2:=q8P b.x
 have ny2:=q8P b.y
 have ns2:=q8P b.s
 have nx3:=q8P d.x
 have ny3:=q8P d.y
 have ns3:=q8P d.s
 have px1:=qoa a.x
 have py1:=qoa a.y
 have px2:=qoa b.x
 have py2:=qoa b.y
 obtain⟨x1,y1,s1⟩:=a
 obtain⟨x2,y2,s2⟩:=b
 obtain⟨x3,y3,s3⟩:=d
 simp only at *
 have hU:((iU x1.num x1.den x2.num x2.den:Int):Rat)=(x2-x1)*((x1.den:Rat)*x2.den):=by
  unfold iU;simp only[Rat.intCast_sub,Rat.intCast_mul,Rat.intCast_natCast,nx1,nx2];grind
 have hV:((iU y1.num y1.den y2.num y2.den:Int):Rat)=(y2-y1)*((y1.den:Rat)*y2.den):=by
  unfold iU;simp only[Rat.intCast_sub,Rat.intCast_mul,Rat.intCast_natCast,ny1,ny2];grind
 have hE:((iE x1.num x1.den x3.num x3.den:Int):Rat)=(x1-x3)*((x1.den:Rat)*x3.den):=by
  unfold iE;simp only[Rat.intCast_sub,Rat.intCast_mul,Rat.intCast_natCast,nx1,nx3];grind
 have hF:((iE y1.num y1.den y3.num y3.den:Int):Rat)=(y1-y3)*((y1.den:Rat)*y3.den):=by
  unfold iE;simp only[Rat.intCast_sub,Rat.intCast_mul,Rat.intCast_natCast,ny1,ny3];grind
 have hD:((iD x1.den y1.den x2.den y2.den:Int):Rat)=((x1.den:Rat)*x2.den*(y1.den*y2.den))*((x1.den:Rat)*x2.den*(y1.den*y2.den)):=by
  unfold iD;simp only[Rat.intCast_mul,Rat.intCast_natCast]
 have hN:((iN x1.num x1.den y1.num y1.den x2.num x2.den y2.num y2.den:Int):Rat)=far*(((x1.den:Rat)*x2.den*(y1.den*y2.den))*((x1.den:Rat)*x2.den*(y1.den*y2.den))):=by
  unfold iN;simp only[Rat.intCast_add,Rat.intCast_mul,Rat.intCast_natCast,hU,hV,hfar];grind
 have hN0:iN x1.num x1.den y1.num y1.den x2.num x2.den y2.num y2.den≠0:=by
  intro e
  rw[e] at hN
  have h1:(x1.den:Rat)*x2.den*(y1.den*y2.den)≠0:=by
   have:=Rat.mul_pos (Rat.mul_pos (q08 x1) (q08 x2)) (Rat.mul_pos (q08 y1) (q08 y2))
   grind
  have h2:far*(((x1.den:Rat)*x2.den*(y1.den*y2.den))*((x1.den:Rat)*x2.den*(y1.den*y2.den)))=0:=by rw[←hN];simp
  rcases Rat.mul_eq_zero.1 h2 with h3|h3
  ·exact hf h3
  ·rcases Rat.mul_eq_zero.1 h3 with h4|h4<;>exact h1 h4
 have hT:((iT x1.num x1.den y1.num y1.den s1.num s1.den x2.num x2.den y2.num y2.den s2.num s2.den:Int):Rat)=2*t*far*(((x1.den:Rat)*x2.den*(y1.den*y2.den))*((x1.den:Rat)*x2.den*(y1.den*y2.den)))*((s1.den:Rat)*s2.den):=by
  unfold iT;simp only[Rat.intCast_add,Rat.intCast_sub,Rat.intCast_mul,Rat.intCast_natCast,hN,hD,ns1,ns2]
  generalize ((x1.den:Rat)*x2.den*(y1.den*y2.den))*((x1.den:Rat)*x2.den*(y1.den*y2.den))=D2
  have:2*t*far*D2*((s1.den:Rat)*s2.den)=(2*far*t)*(D2*((s1.den:Rat)*s2.den)):=by grind
  rw[this,ht'];grind
 have hG:((iG x1.num x1.den y1.num y1.den x3.num x3.den y3.num y3.den:Int):Rat)=((x1-x3)*(x1-x3)+(y1-y3)*(y1-y3))*(((x1.den:Rat)*y1.den*(x3.den*y3.den))*((x1.den:Rat)*y1.den*(x3.den*y3.den))):=by
  unfold iG;simp only[Rat.intCast_add,Rat.intCast_mul,Rat.intCast_natCast,hE,hF];grind
 have hH:((iH x1.num x1.den y1.num y1.den x2.num x2.den y2.num y2.den x3.num x3.den y3.num y3.den:Int):Rat)=((x1-x3)*(x2-x1)+(y1-y3)*(y2-y1))*(((x1.den:Rat)*x1.den*(x2.den*x3.den))*((y1.den:Rat)*y1.den*(y2.den*y3.den))):=by
  unfold iH;simp only[Rat.intCast_add,Rat.intCast_mul,Rat.intCast_natCast,hE,hF,hU,hV];grind
 have hSq:((iSq x1.den y1.den x3.den y3.den:Int):Rat)=((x1.den:Rat)*y1.den*(x3.den*y3.den))*((x1.den:Rat)*y1.den*(x3.den*y3.den)):=by
  unfold iSq;simp only[Rat.intCast_mul,Rat.intCast_natCast]
 refine⟨?_,?_,?_,hN0⟩
 ·unfold iM iA
  simp only[Rat.intCast_add,Rat.intCast_sub,Rat.intCast_mul,Rat.intCast_natCast,hN,hT,hG,hH,hSq,ns1,ns3]
  have hA:kA ⟨x3,y3,s3⟩ ⟨x1+t*(x2-x1),y1+t*(y2-y1),if neg then y2-y1 else 0-(y2-y1),if neg then 0-(x2-x1) else x2-x1,h⟩=(x1-x3)*(x1-x3)+(y1-y3)*(y1-y3)+2*t*((x1-x3)*(x2-x1)+(y1-y3)*(y2-y1))+s1-s3:=by
   have e1:kA ⟨x3,y3,s3⟩ ⟨x1+t*(x2-x1),y1+t*(y2-y1),if neg then y2-y1 else 0-(y2-y1),if neg then 0-(x2-x1) else x2-x1,h⟩=(x1-x3)*(x1-x3)+(y1-y3)*(y1-y3)+2*t*((x1-x3)*(x2-x1)+(y1-y3)*(y2-y1))+far*(t*t)+far*h-s3:=by
    unfold kA
    rw[hfar]
    cases neg
    ·simp only[Bool.false_eq_true,if_false];grind
    ·simp only[if_true];grind
   rw[e1,hh'];grind
  rw[hA]
  generalize (x1-x3)*(x1-x3)+(y1-y3)*(y1-y3)=e2
  generalize (x1-x3)*(x2-x1)+(y1-y3)*(y2-y1)=ed
  generalize (x1.den:Rat)=P1
  generalize (x2.den:Rat)=P2
  generalize (x3.den:Rat)=P3
  generalize (y1.den:Rat)=Q1
  generalize (y2.den:Rat)=Q2
  generalize (y3.den:Rat)=Q3
  generalize (s1.den:Rat)=R1
  generalize (s2.den:Rat)=R2
  generalize (s3.den:Rat)=R3
  clear hU hV hE hF hD hN hN0 hT hG hH hSq nx1 nx2 nx3 ny1 ny2 ny3 ns1 ns2 ns3 px1 px2 py1 py2 hf h2f ht' hh' hc hfar
  grind
 ·unfold iQ iK kB
  simp only[Rat.intCast_sub,Rat.intCast_mul,Rat.intCast_natCast,hE,hF,hU,hV]
  cases neg
  ·simp only[Bool.false_eq_true,if_false]
   simp
   grind
  ·simp only[if_true]
   simp
   grind
 ·unfold iCd iCn
  simp only[Rat.intCast_sub,Rat.intCast_mul,Rat.intCast_natCast,hN,hT,hD,ns1]
  generalize ((x1.den:Rat)*x2.den*(y1.den*y2.den))*((x1.den:Rat)*x2.den*(y1.den*y2.den))=D2
  generalize (s1.den:Rat)=R1
  generalize (s2.den:Rat)=R2
  have e:s1=far*h+far*(t*t):=by rw[hh'];grind
  have f4:((4:Int):Rat)=4:=by simp
  rw[f4,e]
  clear hU hV hE hF hD hN hN0 hT hG hH hSq nx1 nx2 nx3 ny1 ny2 ny3 ns1 ns2 ns3 px1 px2 py1 py2 hf h2f ht' hh' hc hfar
  grind
end
end Go.Eng

namespace Go.Eng
theorem qj5{a b c:Rat}(hc:0≤c):qaR a b c≤0↔(a≤0∧(b≤0∨c=0∨b*b*c≤a*a))∨(0<a∧b<0∧a*a≤b*b*c):=by
 have hs:=qew (a*a-b*b*c)
 have hs':(0≤sgq (a*a-b*b*c))=(b*b*c≤a*a):=by
  have h1:=qpY (a*a-b*b*c)
  have h2:=qew (-(a*a-b*b*c))
  refine propext ⟨fun h=>?_,fun h=>?_⟩
  ·have:=h2▸(show sgq (-(a*a-b*b*c))≤0 by omega);grind
  ·have:sgq (-(a*a-b*b*c))≤0:=h2▸(show -(a*a-b*b*c)≤0 by grind)
   omega
 have bd:=qra (a*a-b*b*c)
 have pb:0<b→0<c→0<b*b*c:=fun h1 h2=>Rat.mul_pos (Rat.mul_pos h1 h1) h2
 have pa:0<a→0<a*a:=fun h1=>Rat.mul_pos h1 h1
 have za:a=0→a*a=0:=fun h=>by rw[h];grind
 have zc:c=0→b*b*c=0:=fun h=>by rw[h];grind
 unfold qaR
 generalize hz:sgq (a*a-b*b*c)=z at *
 rcases q71 a with⟨ha,ea⟩|⟨ha,ea⟩|⟨ha,ea⟩<;>rcases q71 b with⟨hb,eb⟩|⟨hb,eb⟩|⟨hb,eb⟩<;>rcases q71 c with⟨hc',ec⟩|⟨hc',ec⟩|⟨hc',ec⟩<;>rw[ea,eb,ec]
 all_goals try (exfalso;grind)
 all_goals simp only[
  
  
  show (-1:Int)*0=0 by decide,show (-1:Int)*1=-1 by decide,show (0:Int)*0=0 by decide,show (0:Int)*1=0 by decide,show (1:Int)*0=0 by decide,show (1:Int)*1=1 by decide,Int.one_mul]
 all_goals simp
 all_goals first|(exfalso;grind)|skip
 all_goals grind
theorem qjR{a b:Rat}(h0:0≤a)(h:a≤b):a*a≤b*b:=by
 have:=Rat.mul_nonneg (show 0≤b-a by grind) (show 0≤b+a by grind)
 grind
theorem qnz{a b:Rat}(hb:0≤b)(h:a*a≤b*b):a≤b:=by
 apply Rat.not_lt.1
 intro hn
 have:=Rat.mul_pos (show 0<a-b by grind) (show 0<a+b by grind)
 grind
theorem qpd{a b c T0 T1:Rat}(h0:0≤T0)(h1:T0≤T1)(k0:T0*T0≤c)(k1:c≤T1*T1)(e0:a+b*T0≤0)(e1:a+b*T1≤0):qaR a b c≤0:=by
 have hc:0≤c:=by have:=Rat.mul_nonneg h0 h0;grind
 rw[qj5 hc]
 by_cases hb:b≤0
 ·by_cases ha:a≤0
  ·exact .inl ⟨ha,.inl hb⟩
  ·have hb':b<0:=by
    apply Rat.not_le.1;intro hn
    have h:b=0:=by grind
    rw[h] at e0;grind
   refine .inr ⟨by grind,hb',?_⟩
   have h1:=qjR (a:=a) (b:=(-b)*T0) (by grind) (by grind)
   have h2:=Rat.mul_le_mul_of_nonneg_left k0 (show 0≤b*b by have:=Rat.mul_nonneg (show 0≤-b by grind) (show 0≤-b by grind);grind)
   grind
 ·have hb':0≤b:=by grind
  have h3:=Rat.mul_nonneg hb' h0
  refine .inl ⟨by grind,.inr (.inr ?_)⟩
  have h3:=Rat.mul_nonneg hb' (show 0≤T1 by grind)
  have h1:=qjR (a:=b*T1) (b:=-a) h3 (by grind)
  have h2:=Rat.mul_le_mul_of_nonneg_left k1 (Rat.mul_nonneg hb' hb')
  grind
theorem qq9{a b c:Rat}(hc:0≤c)(h:qaR a b c≤0):∃T,0≤T∧T*T≤c∧∀S,T≤S→S*S≤c→a+b*S≤0:=by
 rw[qj5 hc] at h
 by_cases hb:b<0
 ·by_cases ha:a≤0
  ·refine⟨0,by grind,by grind,fun S h1 h2=>?_⟩
   have:=Rat.mul_nonneg (show 0≤-b by grind) h1
   grind
  ·rcases h with h|⟨h1,h2,h3⟩
   ·exact absurd h.1 ha
   ·have hq:a/(-b)*(-b)=a:=Rat.div_mul_cancel (by grind)
    have hq0:0≤a/(-b):=by
     apply Rat.not_lt.1;intro hn
     have:=Rat.mul_pos (show 0 < -(a/(-b)) by grind) (show 0 < -b by grind)
     grind
    generalize a/(-b)=T at *
    refine⟨T,hq0,?_,fun S hS _=>?_⟩
    ·apply Rat.not_lt.1;intro hn
     have:=Rat.mul_pos (show 0<T*T-c by grind) (Rat.mul_pos (show 0 < -b by grind) (show 0 < -b by grind))
     have e:a*a=T*T*(b*b):=by rw[←hq];grind
     rw[e] at h3;clear e hq;grind
    ·have:=Rat.mul_nonneg (show 0≤-b by grind) (show 0≤S-T by grind)
     grind
 ·refine⟨0,by grind,by grind,fun S h1 h2=>?_⟩
  rcases h with⟨h3,h4⟩|⟨_,h5,_⟩
  ·rcases h4 with h4|h4|h4
   ·have:b=0:=by grind
    rw[this];grind
   ·have:S*S≤0:=by grind
    have h6:=qnz (a:=S) (b:=0) (by grind) (by grind)
    have:S=0:=by grind
    rw[this];grind
   ·have k1:=Rat.mul_le_mul_of_nonneg_left h2 (Rat.mul_nonneg (show 0≤b by grind) (show 0≤b by grind))
    have:=qnz (a:=b*S) (b:=-a) (by grind) (by grind)
    grind
  ·exact absurd h5 hb
def pw(d:DQ)(x y:Rat):Rat:=(x-d.x)*(x-d.x)+(y-d.y)*(y-d.y)-d.s
def qtk(l:List DQ):Prop:=∃x y:Rat,∀d∈l,pw d x y≤0
theorem qtk.mono{l l':List DQ}(h:qtk l)(hs:∀d∈l',d∈l):qtk l':=by
 obtain⟨x,y,h⟩:=h
 exact⟨x,y,fun d hd=>h d (hs d hd)⟩
theorem qrt(d:DQ)(p:SQ)(T:Rat):pw d (p.fx+T*p.ax) (p.fy+T*p.ay)=kA d p+kB d p*T+(p.ax*p.ax+p.ay*p.ay)*(T*T-p.h):=by
 unfold pw kA kB;grind
theorem qe9(a:Rat):0≤a*a:=by
 rcases Rat.le_total (a:=0) (b:=a) with h|h
 ·exact Rat.mul_nonneg h h
 ·have:=Rat.mul_nonneg (show 0≤-a by grind) (show 0≤-a by grind);grind
theorem qia(p:SQ)(hn:0≤p.h):∀l:List DQ,(∀d∈l,uA d p)→∃T,0≤T∧T*T≤p.h∧∀d∈l,∀S,T≤S→S*S≤p.h→kA d p+kB d p*S≤0
 | [],_=>⟨0,by grind,by grind,fun d hd=>by cases hd⟩
 | a::l,h=>by
  obtain⟨T,h1,h2,h3⟩:=qia p hn l fun d hd=>h d (List.mem_cons_of_mem _ hd)
  obtain⟨T',k1,k2,k3⟩:=qq9 hn (h a List.mem_cons_self)
  rcases Rat.le_total (a:=T) (b:=T') with hT|hT
  ·refine⟨T',k1,k2,fun d hd S hS hS2=>?_⟩
   rcases List.mem_cons.1 hd with rfl|hd
   ·exact k3 S hS hS2
   ·exact h3 d hd S (Rat.le_trans hT hS) hS2
  ·refine⟨T,h1,h2,fun d hd S hS hS2=>?_⟩
   rcases List.mem_cons.1 hd with rfl|hd
   ·exact k3 S (Rat.le_trans hT hS) hS2
   ·exact h3 d hd S hS hS2
theorem qkf{l:List DQ}{p:SQ}(hn:0≤p.h)(h:∀d∈l,uA d p):qtk l:=by
 obtain⟨T,h1,h2,h3⟩:=qia p hn l h
 refine⟨p.fx+T*p.ax,p.fy+T*p.ay,fun d hd=>?_⟩
 rw[qrt]
 have k1:=h3 d hd T (Rat.le_refl) h2
 have k2:=Rat.mul_nonneg (show 0≤p.ax*p.ax+p.ay*p.ay by have:=qe9 p.ax;have:=qe9 p.ay;grind) (show 0≤p.h-T*T by grind)
 grind
def qvH(x1 y1 x2 y2 x3 y3:Rat):Rat:=(x2-x1)*(y3-y1)-(x3-x1)*(y2-y1)
end Go.Eng

