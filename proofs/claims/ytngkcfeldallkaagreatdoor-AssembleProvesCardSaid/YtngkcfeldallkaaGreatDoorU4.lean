/- Texts of the proof, merged: what the code computes, and plain laws. No statement stands here. -/
import Derived.OpenShut
import Derived.Deep.Slices
import Derived.SizedLaws
import Derived.Below
import Derived.Lib.LaidTab
import Derived.Test.YtngkcfeldallkaaGreatDoorU3
namespace Go.Eng
theorem qvb(x0:Int):ux [.i x0]=(.br (ile (-100000) x0) (.leaf (0,[(.b (ile x0 100000))])) (.leaf (0,[(.b false)]))):=by kernel_rfl
theorem qrv(x0:Int):jQ [.i x0]=(.br (ile 1 x0) (.leaf (0,[(.b (ile x0 100000))])) (.leaf (0,[(.b false)]))):=by kernel_rfl
theorem qoZ(x0:Int)(x1:Int)(x2:Int)(x3:Int)(x4:Int)(x5:Int)(x6:Bool):jE [.i x0,.i x1,.i x2,.i x3,.i x4,.i x5,.b x6]=(.br (okR (ux [(.i x0)])) (.br (not (gB (ux [(.i x0)]) 0)) (.leaf (0,[(.i 2)])) (.br (okR (ux [(.i x1)])) (.br (not (gB (ux [(.i x1)]) 0)) (.leaf (0,[(.i 2)])) (.br (okR (jQ [(.i x2)])) (.br (not (gB (jQ [(.i x2)]) 0)) (.leaf (0,[(.i 2)])) (.br (okR (jQ [(.i x3)])) (.br (not (gB (jQ [(.i x3)]) 0)) (.leaf (0,[(.i 2)])) (.br (ilt x3 x2) (.leaf (0,[(.i 9)])) (.br (ilt x4 0) (.leaf (0,[(.i 2)])) (.br (ilt 100000 x4) (.leaf (0,[(.i 2)])) (.br (not x6) (.br (ile x2 x4) (.leaf (0,[(.i 2)])) (.br (ilt x5 0) (.leaf (0,[(.i 1)])) (.br (ile 3 x5) (.leaf (0,[(.i 1)])) (.leaf (0,[(.i 0)]))))) (.br (ilt x5 0) (.leaf (0,[(.i 1)])) (.br (ile 3 x5) (.leaf (0,[(.i 1)])) (.leaf (0,[(.i 0)]))))))))) .fail)) .fail)) .fail)) .fail):=by kernel_rfl
theorem qb4(y0:Int)(y1:Int)(y2:Int)(y3:Int)(y4:Int)(y5:Int)(y6:Int)(y7:Int)(y8:Bool)(y9:Int)(y10:Int)(y11:Int)(y12:Int)(y13:Int)(y14:Int)(y15:Bool)(y16:R):un [.i y0,.i y1,.i y2,.i y3,.i y4,.i y5,.i y6,.i y7,.b y8,.i y9,.i y10,.i y11,.i y12,.i y13,.i y14,.b y15,.r y16]=(.br (ilt y1 y0) (.br (inb y1 (qf y16)) (let r0:TR:=(jE [(.i (cI y16 y1 0)),(.i (cI y16 y1 1)),(.i (cI y16 y1 2)),(.i (cI y16 y1 3)),(.i (cI y16 y1 4)),(.i (cI y16 y1 5)),(.b (cB y16 y1 6))])
 .br (okR r0) (.br (ine (gI r0 0) 0) (.leaf (2,[(.i (gI r0 0))])) (.leaf (0,[(.i y0),(.i (qj .i64 y1 1)),(.i y2),(.i y3),(.i y4),(.i y5),(.i y6),(.i y7),(.b y8),(.i y9),(.i y10),(.i y11),(.i y12),(.i y13),(.i y14),(.b y15),(.r y16)]))) .fail) .fail) (.leaf (1,[(.i y2),(.i y3),(.i y4),(.i y5),(.i y6),(.i y7),(.b y8),(.i y9),(.i y10),(.i y11),(.i y12),(.i y13),(.i y14),(.b y15)]))):=by kernel_rfl
theorem qlS(x0:Int)(x1:Int)(x2:Int)(x3:Int)(x4:Int)(x5:Int)(x6:Bool)(x7:Int)(x8:Int)(x9:Int)(x10:Int)(x11:Int)(x12:Int)(x13:Bool):q0r [.i x0,.i x1,.i x2,.i x3,.i x4,.i x5,.b x6,.i x7,.i x8,.i x9,.i x10,.i x11,.i x12,.b x13]=(let r0:TR:=(qh un [(.i (qf [[(.i x0),(.i x1),(.i x2),(.i x3),(.i x4),(.i x5),(.b x6)],[(.i x7),(.i x8),(.i x9),(.i x10),(.i x11),(.i x12),(.b x13)]])),(.i 0),(.i x0),(.i x1),(.i x2),(.i x3),(.i x4),(.i x5),(.b x6),(.i x7),(.i x8),(.i x9),(.i x10),(.i x11),(.i x12),(.b x13),(.r [[(.i x0),(.i x1),(.i x2),(.i x3),(.i x4),(.i x5),(.b x6)],[(.i x7),(.i x8),(.i x9),(.i x10),(.i x11),(.i x12),(.b x13)]])])
 .br (okR r0) (.br (jIs r0 0) (.br (ine (gI r0 5) 1) (.leaf (0,[(.i 14)])) (.br (ine (gI r0 12) 1) (.leaf (0,[(.i 14)])) (.br (not (qxU (ieq (gI r0 0) (gI r0 7)) (qxU (ieq (gI r0 1) (gI r0 8)) true))) (.leaf (0,[(.i 16)])) (.br (beq (gB r0 6) (gB r0 13)) (.leaf (0,[(.i 16)])) (.leaf (0,[(.i 0)])))))) (.leaf (0,[(.i (gI r0 0))]))) .fail):=by kernel_rfl
theorem q7V(y0:Int)(y1:Int)(y2:R)(y3:R):uy [.i y0,.i y1,.r y2,.r y3]=(.br (ilt y1 y0) (.br (inb y1 (qf y2)) (.br (inb y1 (qf y3)) (let r0:TR:=(q0r [(.i (cI y2 y1 0)),(.i (cI y2 y1 1)),(.i (cI y2 y1 2)),(.i (cI y2 y1 3)),(.i (cI y2 y1 4)),(.i (cI y2 y1 5)),(.b (cB y2 y1 6)),(.i (cI y3 y1 0)),(.i (cI y3 y1 1)),(.i (cI y3 y1 2)),(.i (cI y3 y1 3)),(.i (cI y3 y1 4)),(.i (cI y3 y1 5)),(.b (cB y3 y1 6))])
 .br (okR r0) (.br (ine (gI r0 0) 0) (.leaf (2,[(.i (gI r0 0))])) (.leaf (0,[(.i y0),(.i (qj .i64 y1 1)),(.r y2),(.r y3)]))) .fail) .fail) .fail) (.leaf (1,[]))):=by kernel_rfl
theorem qkF(x0:R)(x1:R):v6 [.r x0,.r x1]=(.br (ieq (qf x0) 0) (.leaf (0,[(.i 13)])) (.br (ilt 16 (qf x0)) (.leaf (0,[(.i 5)])) (.br (ine (qf x0) (qf x1)) (.leaf (0,[(.i 8)])) (let r0:TR:=(qh uy [(.i (qf x0)),(.i 0),(.r x0),(.r x1)])
 .br (okR r0) (.br (jIs r0 0) (.leaf (0,[(.i 0)])) (.leaf (0,[(.i (gI r0 0))]))) .fail)))):=by kernel_rfl
theorem quH(x0:Int)(x1:Int)(x2:Int)(x3:Int)(x4:Int)(x5:Int)(x6:Bool):qcf [.i x0,.i x1,.i x2,.i x3,.i x4,.i x5,.b x6]=(.br x6 (.br (ieq x5 2) (.leaf (0,[(.i x0),(.i x1),(.i x2),(.i x3),(.i x4),(.i x5),(.b x6),(.i (cI [[(.i (-1)),(.i (-1)),(.i 1),(.i 1),(.i 1),(.i (-1))]] 0 5))])) (.br (ieq x5 1) (.leaf (0,[(.i x0),(.i x1),(.i x2),(.i x3),(.i x4),(.i x5),(.b x6),(.i (cI [[(.i (-1)),(.i (-1)),(.i 1),(.i 1),(.i 1),(.i (-1))]] 0 4))])) (.br (ieq x5 0) (.leaf (0,[(.i x0),(.i x1),(.i x2),(.i x3),(.i x4),(.i x5),(.b x6),(.i (cI [[(.i (-1)),(.i (-1)),(.i 1),(.i 1),(.i 1),(.i (-1))]] 0 3))])) .fail))) (.br (ieq x5 2) (.leaf (0,[(.i x0),(.i x1),(.i x2),(.i x3),(.i x4),(.i x5),(.b x6),(.i (cI [[(.i (-1)),(.i (-1)),(.i 1),(.i 1),(.i 1),(.i (-1))]] 0 2))])) (.br (ieq x5 1) (.leaf (0,[(.i x0),(.i x1),(.i x2),(.i x3),(.i x4),(.i x5),(.b x6),(.i (cI [[(.i (-1)),(.i (-1)),(.i 1),(.i 1),(.i 1),(.i (-1))]] 0 1))])) (.br (ieq x5 0) (.leaf (0,[(.i x0),(.i x1),(.i x2),(.i x3),(.i x4),(.i x5),(.b x6),(.i (cI [[(.i (-1)),(.i (-1)),(.i 1),(.i 1),(.i 1),(.i (-1))]] 0 0))])) .fail)))):=by kernel_rfl
theorem qem(x0:Int)(x1:Int)(x2:Int)(x3:Int)(x4:Int)(x5:Int)(x6:Bool)(x7:Int)(x8:Int):jT [.i x0,.i x1,.i x2,.i x3,.i x4,.i x5,.b x6,.i x7,.i x8]=(.br (ilt x8 0) (.leaf (0,[(.i x2)])) (.leaf (0,[(.i x3)]))):=by kernel_rfl
theorem qlX(x0:Int)(x1:Int)(x2:Int)(x3:Int)(x4:Int)(x5:Int)(x6:Bool):jU [.i x0,.i x1,.i x2,.i x3,.i x4,.i x5,.b x6]=(let r0:TR:=(jE [(.i x0),(.i x1),(.i x2),(.i x3),(.i x4),(.i x5),(.b x6)])
 .br (okR r0) (.br (ine (gI r0 0) 0) (.leaf (0,[(.i 0),(.i (gI r0 0))])) (let r1:TR:=(qcf [(.i x0),(.i x1),(.i x2),(.i x3),(.i x4),(.i x5),(.b x6)])
 .br (okR r1) (let r2:TR:=(jT [(.i (gI r1 0)),(.i (gI r1 1)),(.i (gI r1 2)),(.i (gI r1 3)),(.i (gI r1 4)),(.i (gI r1 5)),(.b (gB r1 6)),(.i (gI r1 7)),(.i (gI r1 7))])
 .br (okR r2) (.leaf (0,[(.i (qj .i64 (gI r2 0) (uk .i64 (gI r1 7) (gI r1 4)))),(.i 0)])) .fail) .fail)) .fail):=by kernel_rfl
theorem q7t(y0:R)(y1:Int)(y2:Int)(y3:R)(y4:R)(y5:R):j3 [.r y0,.i y1,.i y2,.r y3,.r y4,.r y5]=(.br (ilt y2 y1) (.br (inb y2 (qf y0)) (let r0:TR:=(jU [(.i (cI y0 y2 0)),(.i (cI y0 y2 1)),(.i (cI y0 y2 2)),(.i (cI y0 y2 3)),(.i (cI y0 y2 4)),(.i (cI y0 y2 5)),(.b (cB y0 y2 6))])
 .br (okR r0) (.br (inb y2 (qf y4)) (let r1:TR:=(jU [(.i (cI y4 y2 0)),(.i (cI y4 y2 1)),(.i (cI y4 y2 2)),(.i (cI y4 y2 3)),(.i (cI y4 y2 4)),(.i (cI y4 y2 5)),(.b (cB y4 y2 6))])
 .br (okR r1) (.br (ine (qj .i64 (gI r0 1) (gI r1 1)) 0) (.leaf (2,[(.i (qer (gI r0 1) (gI r1 1)))])) (.br (cB y0 y2 6) (.br (ile ((qf y5)+(qf [[(.i (qw .i64 (gI r1 0) (gI r0 0)))]])) 17592186044416) (.leaf (0,[(.r y0),(.i y1),(.i (qj .i64 y2 1)),(.r y3),(.r y4),(.r (q3z y5 [[(.i (qw .i64 (gI r1 0) (gI r0 0)))]]))])) .fail) (.br (ile ((qf y5)+(qf [[(.i (qw .i64 (gI r0 0) (gI r1 0)))]])) 17592186044416) (.leaf (0,[(.r y0),(.i y1),(.i (qj .i64 y2 1)),(.r y3),(.r y4),(.r (q3z y5 [[(.i (qw .i64 (gI r0 0) (gI r1 0)))]]))])) .fail))) .fail) .fail) .fail) .fail) (.leaf (1,[(.r y5)]))):=by kernel_rfl
theorem qhJ(x0:R)(x1:R):vX [.r x0,.r x1]=(let r0:TR:=(v6 [(.r x0),(.r x1)])
 .br (okR r0) (.br (ine (gI r0 0) 0) (.leaf (0,[(.r []),(.i (gI r0 0))])) (let r1:TR:=(qh j3 [(.r x0),(.i (qf x0)),(.i 0),(.r x0),(.r x1),(.r [])])
 .br (okR r1) (.br (jIs r1 0) (.leaf (0,[(.r (gR r1 0)),(.i 0)])) (.leaf (0,[(.r []),(.i (gI r1 0))]))) .fail)) .fail):=by kernel_rfl
theorem qgw(x0:Int)(x1:Int):wh [.i x0,.i x1]=(.leaf (0,[(.b (ilt x1 0))])):=by kernel_rfl
theorem vN(y0:R)(y1:Int)(y2:Int)(y3:R):qy [.r y0,.i y1,.i y2,.r y3]=(.br (ilt y2 y1) (.br (inb y2 (qf y0)) (let r0:TR:=(wh [(.i y2),(.i (cI y0 y2 0))])
 .br (okR r0) (.br (gB r0 0) (.br (ile ((qf y3)+(qf [[(.i y2)]])) 17592186044416) (.leaf (0,[(.r y0),(.i y1),(.i (qj .i64 y2 1)),(.r (q3z y3 [[(.i y2)]]))])) .fail) (.leaf (0,[(.r y0),(.i y1),(.i (qj .i64 y2 1)),(.r y3)]))) .fail) .fail) (.leaf (1,[(.r y3)]))):=by kernel_rfl
theorem q1y(x0:R):qk [.r x0]=(let r0:TR:=(qh qy [(.r x0),(.i (qf x0)),(.i 0),(.r [])])
 .br (okR r0) (.leaf (0,[(.r (gR r0 0))])) .fail):=by kernel_rfl
theorem qlY(x0:R)(x1:R):q2n [.r x0,.r x1]=(let r0:TR:=(vX [(.r x0),(.r x1)])
 .br (okR r0) (.br (ieq (gI r0 1) 0) (let r1:TR:=(qk [(.r (gR r0 0))])
 .br (okR r1) (.leaf (0,[(.b (ieq (qf (gR r1 0)) 0)),(.i (gI r0 1))])) .fail) (.leaf (0,[(.b false),(.i (gI r0 1))]))) .fail):=by kernel_rfl
theorem q3U(y0:R)(y1:R)(y2:Int)(y3:Int):vz [.r y0,.r y1,.i y2,.i y3]=(.br (ilt y3 y2) (.br (inb y3 (qf y0)) (.br (inb y3 (qf y1)) (.br (ine (cI y0 y3 0) (cI y1 y3 0)) (.leaf (2,[(.b false)])) (.leaf (0,[(.r y0),(.r y1),(.i y2),(.i (qj .i64 y3 1))]))) .fail) .fail) (.leaf (1,[]))):=by kernel_rfl
theorem qdI(x0:R)(x1:R):qK [.r x0,.r x1]=(.br (ine (qf x0) (qf x1)) (.leaf (0,[(.b false)])) (let r0:TR:=(qh vz [(.r x0),(.r x1),(.i (qf x0)),(.i 0)])
 .br (okR r0) (.br (jIs r0 0) (.leaf (0,[(.b true)])) (.leaf (0,[(.b (gB r0 0))]))) .fail)):=by kernel_rfl
theorem qtt(x0:Int)(x1:Int)(x2:Int)(x3:Int)(x4:Int)(x5:Int)(x6:Bool)(x7:Int)(x8:Int)(x9:Int):qdm [.i x0,.i x1,.i x2,.i x3,.i x4,.i x5,.b x6,.i x7,.i x8,.i x9]=(.leaf (0,[(.i (qw .i64 x7 x0)),(.i (qw .i64 x8 x1))])):=by kernel_rfl
theorem qrN(x0:Int)(x1:Int)(x2:Int):q7g [.i x0,.i x1,.i x2]=(.br (okR (ux [(.i x0)])) (.br (not (gB (ux [(.i x0)]) 0)) (.leaf (0,[(.i 2)])) (.br (okR (ux [(.i x1)])) (.br (not (gB (ux [(.i x1)]) 0)) (.leaf (0,[(.i 2)])) (.br (okR (jQ [(.i x2)])) (.br (not (gB (jQ [(.i x2)]) 0)) (.leaf (0,[(.i 2)])) (.leaf (0,[(.i 0)]))) .fail)) .fail)) .fail):=by kernel_rfl
theorem qrC(x0:Int)(x1:Int)(x2:Int)(x3:Int)(x4:Int)(x5:Int)(x6:Bool)(x7:Int)(x8:Int)(x9:Int):q7f [.i x0,.i x1,.i x2,.i x3,.i x4,.i x5,.b x6,.i x7,.i x8,.i x9]=(let r0:TR:=(jE [(.i x0),(.i x1),(.i x2),(.i x3),(.i x4),(.i x5),(.b x6)])
 .br (okR r0) (.br (ine (gI r0 0) 0) (.leaf (0,[(.i (gI r0 0))])) (let r1:TR:=(q7g [(.i x7),(.i x8),(.i x9)])
 .br (okR r1) (.leaf (0,[(.i (gI r1 0))])) .fail)) .fail):=by kernel_rfl
theorem qkB(x0:Int)(x1:Int)(x2:Int)(x3:Int)(x4:Int)(x5:Int)(x6:Bool)(x7:Int)(x8:Int)(x9:Int):j6 [.i x0,.i x1,.i x2,.i x3,.i x4,.i x5,.b x6,.i x7,.i x8,.i x9]=(let r0:TR:=(q7f [(.i x0),(.i x1),(.i x2),(.i x3),(.i x4),(.i x5),(.b x6),(.i x7),(.i x8),(.i x9)])
 .br (okR r0) (.br (ine (gI r0 0) 0) (.leaf (0,[(.i 0),(.i (gI r0 0))])) (let r1:TR:=(qdm [(.i x0),(.i x1),(.i x2),(.i x3),(.i x4),(.i x5),(.b x6),(.i x7),(.i x8),(.i x9)])
 .br (okR r1) (.leaf (0,[(.i (qj .i64 (uk .i64 (gI r1 0) (gI r1 0)) (uk .i64 (gI r1 1) (gI r1 1)))),(.i 0)])) .fail)) .fail):=by kernel_rfl
theorem qiV(x0:Int)(x1:Int)(x2:Int)(x3:Int)(x4:Int)(x5:Int)(x6:Bool)(x7:Int)(x8:Int)(x9:Int):ju [.i x0,.i x1,.i x2,.i x3,.i x4,.i x5,.b x6,.i x7,.i x8,.i x9]=(.br (ile x2 x9) (.leaf (0,[(.b (ile x9 x3))])) (.leaf (0,[(.b false)]))):=by kernel_rfl
theorem q7l(y0:Int)(y1:Int)(y2:R)(y3:R)(y4:R)(y5:R):yM [.i y0,.i y1,.r y2,.r y3,.r y4,.r y5]=(.br (ilt y1 y0) (.br (inb y1 (qf y2)) (.br (inb y1 (qf y4)) (let r0:TR:=(j6 [(.i (cI y2 y1 0)),(.i (cI y2 y1 1)),(.i (cI y2 y1 2)),(.i (cI y2 y1 3)),(.i (cI y2 y1 4)),(.i (cI y2 y1 5)),(.b (cB y2 y1 6)),(.i (cI y4 y1 0)),(.i (cI y4 y1 1)),(.i (cI y4 y1 2))])
 .br (okR r0) (.br (ine (gI r0 1) 0) (.leaf (2,[(.i (gI r0 1))])) (.br (inb y1 (qf y3)) (.br (inb y1 (qf y5)) (let r1:TR:=(j6 [(.i (cI y3 y1 0)),(.i (cI y3 y1 1)),(.i (cI y3 y1 2)),(.i (cI y3 y1 3)),(.i (cI y3 y1 4)),(.i (cI y3 y1 5)),(.b (cB y3 y1 6)),(.i (cI y5 y1 0)),(.i (cI y5 y1 1)),(.i (cI y5 y1 2))])
 .br (okR r1) (.br (ine (gI r1 1) 0) (.leaf (2,[(.i (gI r1 1))])) (.br (inb y1 (qf y2)) (.br (inb y1 (qf y4)) (let r2:TR:=(ju [(.i (cI y2 y1 0)),(.i (cI y2 y1 1)),(.i (cI y2 y1 2)),(.i (cI y2 y1 3)),(.i (cI y2 y1 4)),(.i (cI y2 y1 5)),(.b (cB y2 y1 6)),(.i (cI y4 y1 0)),(.i (cI y4 y1 1)),(.i (cI y4 y1 2))])
 .br (okR r2) (.br (not (gB r2 0)) (.leaf (2,[(.i 14)])) (.br (inb y1 (qf y3)) (.br (inb y1 (qf y5)) (let r3:TR:=(ju [(.i (cI y3 y1 0)),(.i (cI y3 y1 1)),(.i (cI y3 y1 2)),(.i (cI y3 y1 3)),(.i (cI y3 y1 4)),(.i (cI y3 y1 5)),(.b (cB y3 y1 6)),(.i (cI y5 y1 0)),(.i (cI y5 y1 1)),(.i (cI y5 y1 2))])
 .br (okR r3) (.br (not (gB r3 0)) (.leaf (2,[(.i 14)])) (.leaf (0,[(.i y0),(.i (qj .i64 y1 1)),(.r y2),(.r y3),(.r y4),(.r y5)]))) .fail) .fail) .fail)) .fail) .fail) .fail)) .fail) .fail) .fail)) .fail) .fail) .fail) (.leaf (1,[]))):=by kernel_rfl
theorem qjL(x0:R)(x1:R)(x2:R)(x3:R):wz [.r x0,.r x1,.r x2,.r x3]=(let r0:TR:=(v6 [(.r x0),(.r x1)])
 .br (okR r0) (.br (ine (gI r0 0) 0) (.leaf (0,[(.i (gI r0 0))])) (.br (ine (qf x2) (qf x0)) (.leaf (0,[(.i 8)])) (.br (ine (qf x3) (qf x1)) (.leaf (0,[(.i 8)])) (let r1:TR:=(qh yM [(.i (qf x0)),(.i 0),(.r x0),(.r x1),(.r x2),(.r x3)])
 .br (okR r1) (.br (jIs r1 0) (.leaf (0,[(.i 0)])) (.leaf (0,[(.i (gI r1 0))]))) .fail)))) .fail):=by kernel_rfl
theorem qa8(y0:R)(y1:Int)(y2:Int)(y3:R)(y4:R)(y5:R):yp [.r y0,.i y1,.i y2,.r y3,.r y4,.r y5]=(.br (ilt y2 y1) (.br (inb y2 (qf y0)) (.br (inb y2 (qf y3)) (.br (inb y2 (qf y4)) (.br (cB y0 y2 6) (.br (ile ((qf y5)+(qf [[(.i (qw .i64 0 (qw .i64 (cI y3 y2 2) (cI y4 y2 2))))]])) 17592186044416) (.leaf (0,[(.r y0),(.i y1),(.i (qj .i64 y2 1)),(.r y3),(.r y4),(.r (q3z y5 [[(.i (qw .i64 0 (qw .i64 (cI y3 y2 2) (cI y4 y2 2))))]]))])) .fail) (.br (ile ((qf y5)+(qf [[(.i (qw .i64 (cI y3 y2 2) (cI y4 y2 2)))]])) 17592186044416) (.leaf (0,[(.r y0),(.i y1),(.i (qj .i64 y2 1)),(.r y3),(.r y4),(.r (q3z y5 [[(.i (qw .i64 (cI y3 y2 2) (cI y4 y2 2)))]]))])) .fail)) .fail) .fail) .fail) (.leaf (1,[(.r y5)]))):=by kernel_rfl
theorem qkN(x0:R)(x1:R)(x2:R)(x3:R):zt [.r x0,.r x1,.r x2,.r x3]=(let r0:TR:=(qh yp [(.r x0),(.i (qf x0)),(.i 0),(.r x2),(.r x3),(.r [])])
 .br (okR r0) (.leaf (0,[(.r (gR r0 0))])) .fail):=by kernel_rfl
theorem qfp(x0:Int)(x1:Int)(x2:R)(x3:R):wD [.i x0,.i x1,.r x2,.r x3]=(.br (inb x0 (qf x2)) (.br (inb x0 (qf x3)) (.br (inb x0 (qf x2)) (.br (inb x0 (qf x3)) (.br (ilt x1 0) (.leaf (0,[(.b true),(.r x2),(.r x3)])) (.leaf (0,[(.b (ilt (uk .i64 x1 x1) (uk .i64 4 (qj .i64 (uk .i64 (qw .i64 (cI x2 x0 0) (cI x3 x0 0)) (qw .i64 (cI x2 x0 0) (cI x3 x0 0))) (uk .i64 (qw .i64 (cI x2 x0 1) (cI x3 x0 1)) (qw .i64 (cI x2 x0 1) (cI x3 x0 1))))))),(.r x2),(.r x3)]))) .fail) .fail) .fail) .fail):=by kernel_rfl
theorem vn(y0:R)(y1:Int)(y2:Int)(y3:R)(y4:R)(y5:R):qx [.r y0,.i y1,.i y2,.r y3,.r y4,.r y5]=(.br (ilt y2 y1) (.br (inb y2 (qf y0)) (let r0:TR:=(wD [(.i y2),(.i (cI y0 y2 0)),(.r y3),(.r y4)])
 .br (okR r0) (.br (gB r0 0) (.br (ile ((qf y5)+(qf [[(.i y2)]])) 17592186044416) (.leaf (0,[(.r y0),(.i y1),(.i (qj .i64 y2 1)),(.r (gR r0 1)),(.r (gR r0 2)),(.r (q3z y5 [[(.i y2)]]))])) .fail) (.leaf (0,[(.r y0),(.i y1),(.i (qj .i64 y2 1)),(.r (gR r0 1)),(.r (gR r0 2)),(.r y5)]))) .fail) .fail) (.leaf (1,[(.r y3),(.r y4),(.r y5)]))):=by kernel_rfl
theorem q17(x0:R)(x1:R)(x2:R):qF [.r x0,.r x1,.r x2]=(let r0:TR:=(qh qx [(.r x0),(.i (qf x0)),(.i 0),(.r x1),(.r x2),(.r [])])
 .br (okR r0) (.leaf (0,[(.r (gR r0 2)),(.r (gR r0 0)),(.r (gR r0 1))])) .fail):=by kernel_rfl
theorem qi8(x0:R)(x1:R)(x2:R)(x3:R):wc [.r x0,.r x1,.r x2,.r x3]=(let r0:TR:=(wz [(.r x0),(.r x1),(.r x2),(.r x3)])
 .br (okR r0) (.br (ine (gI r0 0) 0) (.leaf (0,[(.r []),(.i (gI r0 0))])) (let r1:TR:=(zt [(.r x0),(.r x1),(.r x2),(.r x3)])
 .br (okR r1) (let r2:TR:=(qF [(.r (gR r1 0)),(.r x2),(.r x3)])
 .br (okR r2) (.leaf (0,[(.r (gR r2 0)),(.i 0)])) .fail) .fail)) .fail):=by kernel_rfl
theorem q5A(x0:List UInt8)(x1:List UInt8):qG [.s x0,.s x1]=(.br (ile (qu x1) (qu x0)) (.br (q6O (qu x1) (qu x0)) (.br (q6O 0 (qu x1)) (.leaf (0,[(.b (seq (qet x0 0 (qu x1)) x1))])) .fail) .fail) (.leaf (0,[(.b false)]))):=by kernel_rfl
theorem q57(x0:List UInt8)(x1:List UInt8):zh [.s x0,.s x1]=(let r0:TR:=(qG [(.s x0),(.s x1)])
 .br (okR r0) (.br (gB r0 0) (.br (q6O (qu x0) (qu x0)) (.br (q6O (qu x1) (qu x0)) (.leaf (0,[(.s (qet x0 (qu x1) (qu x0)))])) .fail) .fail) (.leaf (0,[(.s x0)]))) .fail):=by kernel_rfl
theorem qff(x0:List UInt8)(x1:List UInt8):qT [.s x0,.s x1]=(let r0:TR:=(zh [(.s x0),(.s x1)])
 .br (okR r0) (.leaf (0,[(.s (gS r0 0))])) .fail):=by kernel_rfl
theorem qpd(x0:List UInt8):qP [.s x0]=(let r0:TR:=(qT [(.s x0),(.s [45])])
 .br (okR r0) (.br (seq (gS r0 0) []) (.leaf (0,[(.i 3)])) (let r1:TR:=(q6V [(.s (gS r0 0)),(.s [48,49,50,51,52,53,54,55,56,57])])
 .br (okR r1) (.br (not (seq (gS r1 0) [])) (.leaf (0,[(.i 3)])) (.br (inb 0 (qu (gS r0 0))) (.br (ieq (sat (gS r0 0) 0) 48) (.br (not (seq x0 [48])) (.leaf (0,[(.i 3)])) (.br (ilt 1024 (qu (gS r0 0))) (.leaf (0,[(.i 11)])) (.leaf (0,[(.i 0)])))) (.br (ilt 1024 (qu (gS r0 0))) (.leaf (0,[(.i 11)])) (.leaf (0,[(.i 0)])))) .fail)) .fail)) .fail):=by kernel_rfl
theorem q94(x0:List UInt8)(x1:List UInt8):wC [.s x0,.s x1]=(let r0:TR:=(vK [(.s x0),(.s x1)])
 .br (okR r0) (.br (ile 0 (gI r0 0)) (.br (q6O (gI r0 0) (qu x0)) (.br (q6O 0 (gI r0 0)) (.br (q6O (qu x0) (qu x0)) (.br (q6O (qj .i64 (gI r0 0) (qu x1)) (qu x0)) (.leaf (0,[(.s (qet x0 0 (gI r0 0))),(.s (qet x0 (qj .i64 (gI r0 0) (qu x1)) (qu x0))),(.b true)])) .fail) .fail) .fail) .fail) (.leaf (0,[(.s x0),(.s []),(.b false)]))) .fail):=by kernel_rfl
theorem qox(x0:List UInt8)(x1:List UInt8):q5r [.s x0,.s x1]=(let r0:TR:=(wC [(.s x0),(.s x1)])
 .br (okR r0) (.leaf (0,[(.s (gS r0 0)),(.s (gS r0 1)),(.b (gB r0 2))])) .fail):=by kernel_rfl
theorem qsT(x0:List UInt8):qR [.s x0]=(let r0:TR:=(q5r [(.s x0),(.s [47])])
 .br (okR r0) (.br (not (gB r0 2)) (.leaf (0,[(.s (gS r0 0)),(.s [49]),(.b (gB r0 2))])) (.leaf (0,[(.s (gS r0 0)),(.s (gS r0 1)),(.b (gB r0 2))]))) .fail):=by kernel_rfl
theorem qgG(y0:R)(y1:Int)(y2:Int):q5o [.r y0,.i y1,.i y2]=(.br (ilt y2 y1) (.br (inb y2 (qf y0)) (let r0:TR:=(qP [(.s (cS y0 y2 0))])
 .br (okR r0) (.br (ine (gI r0 0) 0) (.leaf (2,[(.i (gI r0 0))])) (.leaf (0,[(.r y0),(.i y1),(.i (qj .i64 y2 1))]))) .fail) .fail) (.leaf (1,[]))):=by kernel_rfl
theorem qtq(x0:R):zY [.r x0]=(let r0:TR:=(qh q5o [(.r x0),(.i (qf x0)),(.i 0)])
 .br (okR r0) (.br (jIs r0 0) (.leaf (0,[(.i 0)])) (.leaf (0,[(.i (gI r0 0))]))) .fail):=by kernel_rfl
theorem qrV(x0:List UInt8):ug [.s x0]=(.br (seq x0 [48]) (.leaf (0,[(.i 0)])) (.br (inb 0 (qu x0)) (.br (ieq (sat x0 0) 45) (.leaf (0,[(.i (-1))])) (.leaf (0,[(.i 1)]))) .fail)):=by kernel_rfl
theorem qpe(x0:List UInt8)(x1:List UInt8):q5F [.s x0,.s x1]=(.br (ine (qu x0) (qu x1)) (.br (ilt (qu x0) (qu x1)) (.leaf (0,[(.i (-1))])) (.leaf (0,[(.i 1)]))) (let r0:TR:=(q2V [(.s x0),(.s x1)])
 .br (okR r0) (.leaf (0,[(.i (gI r0 0))])) .fail)):=by kernel_rfl
theorem qlP(x0:List UInt8)(x1:List UInt8):q2y [.s x0,.s x1]=(let r0:TR:=(zY [(.r [[(.s x0)],[(.s x1)]])])
 .br (okR r0) (.br (ine (gI r0 0) 0) (.leaf (0,[(.i 0),(.i (gI r0 0))])) (let r1:TR:=(ug [(.s x0)])
 .br (okR r1) (let r2:TR:=(ug [(.s x1)])
 .br (okR r2) (.br (ilt (gI r1 0) (gI r2 0)) (.leaf (0,[(.i (-1)),(.i 0)])) (.br (okR r2) (.br (ilt (gI r2 0) (gI r1 0)) (.leaf (0,[(.i 1),(.i 0)])) (let r3:TR:=(qT [(.s x0),(.s [45])])
 .br (okR r3) (let r4:TR:=(qT [(.s x1),(.s [45])])
 .br (okR r4) (let r5:TR:=(q5F [(.s (gS r3 0)),(.s (gS r4 0))])
 .br (okR r5) (.leaf (0,[(.i (uk .i64 (gI r1 0) (gI r5 0))),(.i 0)])) .fail) .fail) .fail)) .fail)) .fail) .fail)) .fail):=by kernel_rfl
theorem quN(x0:Int):zx [.i x0]=(.br (okR (q4f [(.i x0)])) (.leaf (0,[(.s (gS (q4f [(.i x0)]) 0))])) .fail):=by kernel_rfl
theorem qcS(y0:Bool)(y1:Int)(y2:R):jn [.b y0,.i y1,.r y2]=(.br (ilt 0 y1) (.br (inb (qw .i64 y1 1) 232) (.br (inb (qw .i64 y1 1) 232) (.br (ieq (cI y2 (qw .i64 y1 1) 0) 0) (.leaf (0,[(.b y0),(.i (qw .i64 y1 1)),(.r y2)])) (.leaf (1,[(.b y0),(.i y1),(.r y2)]))) .fail) .fail) (.leaf (1,[(.b y0),(.i y1),(.r y2)]))):=by kernel_rfl
theorem qeV(x0:Bool)(x1:Int)(x2:R):qB [.b x0,.i x1,.r x2]=(let r0:TR:=(qh jn [(.b x0),(.i x1),(.r x2)])
 .br (okR r0) (.leaf (0,[(.b (gB r0 0)),(.i (gI r0 1)),(.r (gR r0 2))])) .fail):=by kernel_rfl
theorem qnR(y0:List UInt8)(y1:Bool)(y2:Int)(y3:R):q43 [.s y0,.b y1,.i y2,.r y3]=(.br (ilt 0 (qu y0)) (.br (q6O (qu y0) (qu y0)) (.br (q6O (qer 0 (qw .i64 (qu y0) 9)) (qu y0)) (let r0:TR:=(vO [(.s (qet y0 (qer 0 (qw .i64 (qu y0) 9)) (qu y0)))])
 .br (okR r0) (.br (inb y2 232) (.br (inb y2 232) (.br (q6O (qer 0 (qw .i64 (qu y0) 9)) (qu y0)) (.br (q6O 0 (qer 0 (qw .i64 (qu y0) 9))) (.leaf (0,[(.s (qet y0 0 (qer 0 (qw .i64 (qu y0) 9)))),(.b y1),(.i (qj .i64 y2 1)),(.r (q6W y3 y2 0 [(.i (gI r0 0))]))])) .fail) .fail) .fail) .fail) .fail) .fail) .fail) (.leaf (1,[(.b y1),(.i y2),(.r y3)]))):=by kernel_rfl
theorem qro(x0:List UInt8):zG [.s x0]=(.br (inb 0 (qu x0)) (let r0:TR:=(qT [(.s x0),(.s [45])])
 .br (okR r0) (let r1:TR:=(qh q43 [(.s (gS r0 0)),(.b (ieq (sat x0 0) 45)),(.i 0),(.r (q3x 232 [(.i 0)]))])
 .br (okR r1) (let r2:TR:=(qB [(.b (gB r1 0)),(.i (gI r1 1)),(.r (gR r1 2))])
 .br (okR r2) (.leaf (0,[(.b (gB r2 0)),(.i (gI r2 1)),(.r (gR r2 2))])) .fail) .fail) .fail) .fail):=by kernel_rfl
theorem q75(y0:Int)(y1:Int)(y2:Int)(y3:Int)(y4:Bool)(y5:Int)(y6:R)(y7:Bool)(y8:Int)(y9:R):j1 [.i y0,.i y1,.i y2,.i y3,.b y4,.i y5,.r y6,.b y7,.i y8,.r y9]=(.br (ilt y3 y8) (.br (inb (qj .i64 y3 y1) 232) (.br (inb (qj .i64 y3 y1) 232) (.br (ilt y3 y8) (.br (inb y3 232) (.br (inb y3 232) (.br (ilt (qw .i64 (qj .i64 (qj .i64 (cI y6 (qj .i64 y3 y1) 0) y2) (uk .i64 y0 (cI y9 y3 0))) (uk .i64 (u6 .i64 (qj .i64 (qj .i64 (cI y6 (qj .i64 y3 y1) 0) y2) (uk .i64 y0 (cI y9 y3 0))) 1000000000) 1000000000)) 0) (.br (inb (qj .i64 y3 y1) 232) (.br (inb (qj .i64 y3 y1) 232) (.leaf (0,[(.i y0),(.i y1),(.i (qw .i64 (u6 .i64 (qj .i64 (qj .i64 (cI y6 (qj .i64 y3 y1) 0) y2) (uk .i64 y0 (cI y9 y3 0))) 1000000000) 1)),(.i (qj .i64 y3 1)),(.b y4),(.i (qer y5 (qj .i64 (qj .i64 y3 y1) 1))),(.r (q6W y6 (qj .i64 y3 y1) 0 [(.i (qj .i64 (qw .i64 (qj .i64 (qj .i64 (cI y6 (qj .i64 y3 y1) 0) y2) (uk .i64 y0 (cI y9 y3 0))) (uk .i64 (u6 .i64 (qj .i64 (qj .i64 (cI y6 (qj .i64 y3 y1) 0) y2) (uk .i64 y0 (cI y9 y3 0))) 1000000000) 1000000000)) 1000000000))])),(.b y7),(.i y8),(.r y9)])) .fail) .fail) (.br (inb (qj .i64 y3 y1) 232) (.br (inb (qj .i64 y3 y1) 232) (.leaf (0,[(.i y0),(.i y1),(.i (u6 .i64 (qj .i64 (qj .i64 (cI y6 (qj .i64 y3 y1) 0) y2) (uk .i64 y0 (cI y9 y3 0))) 1000000000)),(.i (qj .i64 y3 1)),(.b y4),(.i (qer y5 (qj .i64 (qj .i64 y3 y1) 1))),(.r (q6W y6 (qj .i64 y3 y1) 0 [(.i (qw .i64 (qj .i64 (qj .i64 (cI y6 (qj .i64 y3 y1) 0) y2) (uk .i64 y0 (cI y9 y3 0))) (uk .i64 (u6 .i64 (qj .i64 (qj .i64 (cI y6 (qj .i64 y3 y1) 0) y2) (uk .i64 y0 (cI y9 y3 0))) 1000000000) 1000000000)))])),(.b y7),(.i y8),(.r y9)])) .fail) .fail)) .fail) .fail) (.br (ilt (qw .i64 (qj .i64 (cI y6 (qj .i64 y3 y1) 0) y2) (uk .i64 (u6 .i64 (qj .i64 (cI y6 (qj .i64 y3 y1) 0) y2) 1000000000) 1000000000)) 0) (.br (inb (qj .i64 y3 y1) 232) (.br (inb (qj .i64 y3 y1) 232) (.leaf (0,[(.i y0),(.i y1),(.i (qw .i64 (u6 .i64 (qj .i64 (cI y6 (qj .i64 y3 y1) 0) y2) 1000000000) 1)),(.i (qj .i64 y3 1)),(.b y4),(.i (qer y5 (qj .i64 (qj .i64 y3 y1) 1))),(.r (q6W y6 (qj .i64 y3 y1) 0 [(.i (qj .i64 (qw .i64 (qj .i64 (cI y6 (qj .i64 y3 y1) 0) y2) (uk .i64 (u6 .i64 (qj .i64 (cI y6 (qj .i64 y3 y1) 0) y2) 1000000000) 1000000000)) 1000000000))])),(.b y7),(.i y8),(.r y9)])) .fail) .fail) (.br (inb (qj .i64 y3 y1) 232) (.br (inb (qj .i64 y3 y1) 232) (.leaf (0,[(.i y0),(.i y1),(.i (u6 .i64 (qj .i64 (cI y6 (qj .i64 y3 y1) 0) y2) 1000000000)),(.i (qj .i64 y3 1)),(.b y4),(.i (qer y5 (qj .i64 (qj .i64 y3 y1) 1))),(.r (q6W y6 (qj .i64 y3 y1) 0 [(.i (qw .i64 (qj .i64 (cI y6 (qj .i64 y3 y1) 0) y2) (uk .i64 (u6 .i64 (qj .i64 (cI y6 (qj .i64 y3 y1) 0) y2) 1000000000) 1000000000)))])),(.b y7),(.i y8),(.r y9)])) .fail) .fail))) .fail) .fail) (.br (ine y2 0) (.br (inb (qj .i64 y3 y1) 232) (.br (inb (qj .i64 y3 y1) 232) (.br (ilt y3 y8) (.br (inb y3 232) (.br (inb y3 232) (.br (ilt (qw .i64 (qj .i64 (qj .i64 (cI y6 (qj .i64 y3 y1) 0) y2) (uk .i64 y0 (cI y9 y3 0))) (uk .i64 (u6 .i64 (qj .i64 (qj .i64 (cI y6 (qj .i64 y3 y1) 0) y2) (uk .i64 y0 (cI y9 y3 0))) 1000000000) 1000000000)) 0) (.br (inb (qj .i64 y3 y1) 232) (.br (inb (qj .i64 y3 y1) 232) (.leaf (0,[(.i y0),(.i y1),(.i (qw .i64 (u6 .i64 (qj .i64 (qj .i64 (cI y6 (qj .i64 y3 y1) 0) y2) (uk .i64 y0 (cI y9 y3 0))) 1000000000) 1)),(.i (qj .i64 y3 1)),(.b y4),(.i (qer y5 (qj .i64 (qj .i64 y3 y1) 1))),(.r (q6W y6 (qj .i64 y3 y1) 0 [(.i (qj .i64 (qw .i64 (qj .i64 (qj .i64 (cI y6 (qj .i64 y3 y1) 0) y2) (uk .i64 y0 (cI y9 y3 0))) (uk .i64 (u6 .i64 (qj .i64 (qj .i64 (cI y6 (qj .i64 y3 y1) 0) y2) (uk .i64 y0 (cI y9 y3 0))) 1000000000) 1000000000)) 1000000000))])),(.b y7),(.i y8),(.r y9)])) .fail) .fail) (.br (inb (qj .i64 y3 y1) 232) (.br (inb (qj .i64 y3 y1) 232) (.leaf (0,[(.i y0),(.i y1),(.i (u6 .i64 (qj .i64 (qj .i64 (cI y6 (qj .i64 y3 y1) 0) y2) (uk .i64 y0 (cI y9 y3 0))) 1000000000)),(.i (qj .i64 y3 1)),(.b y4),(.i (qer y5 (qj .i64 (qj .i64 y3 y1) 1))),(.r (q6W y6 (qj .i64 y3 y1) 0 [(.i (qw .i64 (qj .i64 (qj .i64 (cI y6 (qj .i64 y3 y1) 0) y2) (uk .i64 y0 (cI y9 y3 0))) (uk .i64 (u6 .i64 (qj .i64 (qj .i64 (cI y6 (qj .i64 y3 y1) 0) y2) (uk .i64 y0 (cI y9 y3 0))) 1000000000) 1000000000)))])),(.b y7),(.i y8),(.r y9)])) .fail) .fail)) .fail) .fail) (.br (ilt (qw .i64 (qj .i64 (cI y6 (qj .i64 y3 y1) 0) y2) (uk .i64 (u6 .i64 (qj .i64 (cI y6 (qj .i64 y3 y1) 0) y2) 1000000000) 1000000000)) 0) (.br (inb (qj .i64 y3 y1) 232) (.br (inb (qj .i64 y3 y1) 232) (.leaf (0,[(.i y0),(.i y1),(.i (qw .i64 (u6 .i64 (qj .i64 (cI y6 (qj .i64 y3 y1) 0) y2) 1000000000) 1)),(.i (qj .i64 y3 1)),(.b y4),(.i (qer y5 (qj .i64 (qj .i64 y3 y1) 1))),(.r (q6W y6 (qj .i64 y3 y1) 0 [(.i (qj .i64 (qw .i64 (qj .i64 (cI y6 (qj .i64 y3 y1) 0) y2) (uk .i64 (u6 .i64 (qj .i64 (cI y6 (qj .i64 y3 y1) 0) y2) 1000000000) 1000000000)) 1000000000))])),(.b y7),(.i y8),(.r y9)])) .fail) .fail) (.br (inb (qj .i64 y3 y1) 232) (.br (inb (qj .i64 y3 y1) 232) (.leaf (0,[(.i y0),(.i y1),(.i (u6 .i64 (qj .i64 (cI y6 (qj .i64 y3 y1) 0) y2) 1000000000)),(.i (qj .i64 y3 1)),(.b y4),(.i (qer y5 (qj .i64 (qj .i64 y3 y1) 1))),(.r (q6W y6 (qj .i64 y3 y1) 0 [(.i (qw .i64 (qj .i64 (cI y6 (qj .i64 y3 y1) 0) y2) (uk .i64 (u6 .i64 (qj .i64 (cI y6 (qj .i64 y3 y1) 0) y2) 1000000000) 1000000000)))])),(.b y7),(.i y8),(.r y9)])) .fail) .fail))) .fail) .fail) (.leaf (1,[(.b y4),(.i y5),(.r y6),(.b y7),(.i y8),(.r y9)])))):=by kernel_rfl
theorem qhS(x0:Int)(x1:Int)(x2:Bool)(x3:Int)(x4:R)(x5:Bool)(x6:Int)(x7:R):qL [.i x0,.i x1,.b x2,.i x3,.r x4,.b x5,.i x6,.r x7]=(let r0:TR:=(qh j1 [(.i x0),(.i x1),(.i 0),(.i 0),(.b x2),(.i x3),(.r x4),(.b x5),(.i x6),(.r x7)])
 .br (okR r0) (let r1:TR:=(qB [(.b (gB r0 0)),(.i (gI r0 1)),(.r (gR r0 2))])
 .br (okR r1) (.leaf (0,[(.b (gB r1 0)),(.i (gI r1 1)),(.r (gR r1 2)),(.b (gB r0 3)),(.i (gI r0 4)),(.r (gR r0 5))])) .fail) .fail):=by kernel_rfl
theorem qeq(y0:Int)(y1:Bool)(y2:Int)(y3:R)(y4:Bool)(y5:Int)(y6:R):jO [.i y0,.b y1,.i y2,.r y3,.b y4,.i y5,.r y6]=(.br (ile 0 y0) (.br (inb y0 232) (.br (inb y0 232) (.br (inb y0 232) (.br (inb y0 232) (.br (ine (cI y3 y0 0) (cI y6 y0 0)) (.br (inb y0 232) (.br (inb y0 232) (.br (inb y0 232) (.br (inb y0 232) (.leaf (2,[(.i (qw .i64 (cI y3 y0 0) (cI y6 y0 0))),(.b y1),(.i y2),(.r y3),(.b y4),(.i y5),(.r y6)])) .fail) .fail) .fail) .fail) (.leaf (0,[(.i (qw .i64 y0 1)),(.b y1),(.i y2),(.r y3),(.b y4),(.i y5),(.r y6)]))) .fail) .fail) .fail) .fail) (.leaf (1,[(.b y1),(.i y2),(.r y3),(.b y4),(.i y5),(.r y6)]))):=by kernel_rfl
theorem qgi(x0:Bool)(x1:Int)(x2:R)(x3:Bool)(x4:Int)(x5:R):zL [.b x0,.i x1,.r x2,.b x3,.i x4,.r x5]=(.br (ine x1 x4) (.leaf (0,[(.i (qw .i64 x1 x4)),(.b x0),(.i x1),(.r x2),(.b x3),(.i x4),(.r x5)])) (let r0:TR:=(qh jO [(.i (qw .i64 x1 1)),(.b x0),(.i x1),(.r x2),(.b x3),(.i x4),(.r x5)])
 .br (okR r0) (.br (jIs r0 0) (.leaf (0,[(.i 0),(.b (gB r0 0)),(.i (gI r0 1)),(.r (gR r0 2)),(.b (gB r0 3)),(.i (gI r0 4)),(.r (gR r0 5))])) (.leaf (0,[(.i (gI r0 0)),(.b (gB r0 1)),(.i (gI r0 2)),(.r (gR r0 3)),(.b (gB r0 4)),(.i (gI r0 5)),(.r (gR r0 6))]))) .fail)):=by kernel_rfl
theorem qkv(x0:Bool)(x1:Int)(x2:R)(x3:Bool)(x4:Int)(x5:R):yG [.b x0,.i x1,.r x2,.b x3,.i x4,.r x5]=(.br (ilt x4 0) (.br (ilt (qw .i64 x4 1) 0) (.br (ilt (qw .i64 x4 1) 0) (.br (ilt 1 x4) (.leaf (0,[(.i 1),(.b x0),(.i x1),(.r x2),(.b x3),(.i x4),(.r x5)])) .fail) (.br (ile x4 (qw .i64 x4 1)) (.br (ilt 1 x4) (.leaf (0,[(.i 1),(.b x0),(.i x1),(.r x2),(.b x3),(.i x4),(.r x5)])) .fail) (.br (inb (qw .i64 x4 1) 232) (.br (inb (qw .i64 x4 1) 232) (.br (ilt 1 x4) (.br (ine (qj .i64 (cI x5 (qw .i64 x4 1) 0) 1) 0) (.br (ilt 0 (u6 .i64 0 (qj .i64 (cI x5 (qw .i64 x4 1) 0) 1))) (.leaf (0,[(.i (q9E (u6 .i64 0 (qj .i64 (cI x5 (qw .i64 x4 1) 0) 1)) 999999999)),(.b x0),(.i x1),(.r x2),(.b x3),(.i x4),(.r x5)])) (.leaf (0,[(.i 1),(.b x0),(.i x1),(.r x2),(.b x3),(.i x4),(.r x5)]))) .fail) (.br (ine (cI x5 (qw .i64 x4 1) 0) 0) (.br (ilt 0 (u6 .i64 0 (cI x5 (qw .i64 x4 1) 0))) (.leaf (0,[(.i (q9E (u6 .i64 0 (cI x5 (qw .i64 x4 1) 0)) 999999999)),(.b x0),(.i x1),(.r x2),(.b x3),(.i x4),(.r x5)])) (.leaf (0,[(.i 1),(.b x0),(.i x1),(.r x2),(.b x3),(.i x4),(.r x5)]))) .fail)) .fail) .fail))) (.br (ile x1 (qw .i64 x4 1)) (.br (ilt (qw .i64 x4 1) 0) (.br (ilt 1 x4) (.leaf (0,[(.i 1),(.b x0),(.i x1),(.r x2),(.b x3),(.i x4),(.r x5)])) .fail) (.br (ile x4 (qw .i64 x4 1)) (.br (ilt 1 x4) (.leaf (0,[(.i 1),(.b x0),(.i x1),(.r x2),(.b x3),(.i x4),(.r x5)])) .fail) (.br (inb (qw .i64 x4 1) 232) (.br (inb (qw .i64 x4 1) 232) (.br (ilt 1 x4) (.br (ine (qj .i64 (cI x5 (qw .i64 x4 1) 0) 1) 0) (.br (ilt 0 (u6 .i64 0 (qj .i64 (cI x5 (qw .i64 x4 1) 0) 1))) (.leaf (0,[(.i (q9E (u6 .i64 0 (qj .i64 (cI x5 (qw .i64 x4 1) 0) 1)) 999999999)),(.b x0),(.i x1),(.r x2),(.b x3),(.i x4),(.r x5)])) (.leaf (0,[(.i 1),(.b x0),(.i x1),(.r x2),(.b x3),(.i x4),(.r x5)]))) .fail) (.br (ine (cI x5 (qw .i64 x4 1) 0) 0) (.br (ilt 0 (u6 .i64 0 (cI x5 (qw .i64 x4 1) 0))) (.leaf (0,[(.i (q9E (u6 .i64 0 (cI x5 (qw .i64 x4 1) 0)) 999999999)),(.b x0),(.i x1),(.r x2),(.b x3),(.i x4),(.r x5)])) (.leaf (0,[(.i 1),(.b x0),(.i x1),(.r x2),(.b x3),(.i x4),(.r x5)]))) .fail)) .fail) .fail))) (.br (inb (qw .i64 x4 1) 232) (.br (inb (qw .i64 x4 1) 232) (.br (ilt (qw .i64 x4 1) 0) (.br (ilt 1 x4) (.br (ilt 0 (u6 .i64 (qj .i64 0 (cI x2 (qw .i64 x4 1) 0)) 1)) (.leaf (0,[(.i (q9E (u6 .i64 (qj .i64 0 (cI x2 (qw .i64 x4 1) 0)) 1) 999999999)),(.b x0),(.i x1),(.r x2),(.b x3),(.i x4),(.r x5)])) (.leaf (0,[(.i 1),(.b x0),(.i x1),(.r x2),(.b x3),(.i x4),(.r x5)]))) .fail) (.br (ile x4 (qw .i64 x4 1)) (.br (ilt 1 x4) (.br (ilt 0 (u6 .i64 (qj .i64 0 (cI x2 (qw .i64 x4 1) 0)) 1)) (.leaf (0,[(.i (q9E (u6 .i64 (qj .i64 0 (cI x2 (qw .i64 x4 1) 0)) 1) 999999999)),(.b x0),(.i x1),(.r x2),(.b x3),(.i x4),(.r x5)])) (.leaf (0,[(.i 1),(.b x0),(.i x1),(.r x2),(.b x3),(.i x4),(.r x5)]))) .fail) (.br (inb (qw .i64 x4 1) 232) (.br (inb (qw .i64 x4 1) 232) (.br (ilt 1 x4) (.br (ine (qj .i64 (cI x5 (qw .i64 x4 1) 0) 1) 0) (.br (ilt 0 (u6 .i64 (qj .i64 0 (cI x2 (qw .i64 x4 1) 0)) (qj .i64 (cI x5 (qw .i64 x4 1) 0) 1))) (.leaf (0,[(.i (q9E (u6 .i64 (qj .i64 0 (cI x2 (qw .i64 x4 1) 0)) (qj .i64 (cI x5 (qw .i64 x4 1) 0) 1)) 999999999)),(.b x0),(.i x1),(.r x2),(.b x3),(.i x4),(.r x5)])) (.leaf (0,[(.i 1),(.b x0),(.i x1),(.r x2),(.b x3),(.i x4),(.r x5)]))) .fail) (.br (ine (cI x5 (qw .i64 x4 1) 0) 0) (.br (ilt 0 (u6 .i64 (qj .i64 0 (cI x2 (qw .i64 x4 1) 0)) (cI x5 (qw .i64 x4 1) 0))) (.leaf (0,[(.i (q9E (u6 .i64 (qj .i64 0 (cI x2 (qw .i64 x4 1) 0)) (cI x5 (qw .i64 x4 1) 0)) 999999999)),(.b x0),(.i x1),(.r x2),(.b x3),(.i x4),(.r x5)])) (.leaf (0,[(.i 1),(.b x0),(.i x1),(.r x2),(.b x3),(.i x4),(.r x5)]))) .fail)) .fail) .fail))) .fail) .fail))) (.br (ile x1 x4) (.br (ilt (qw .i64 x4 1) 0) (.br (ilt (qw .i64 x4 1) 0) (.br (ilt 1 x4) (.leaf (0,[(.i 1),(.b x0),(.i x1),(.r x2),(.b x3),(.i x4),(.r x5)])) .fail) (.br (ile x4 (qw .i64 x4 1)) (.br (ilt 1 x4) (.leaf (0,[(.i 1),(.b x0),(.i x1),(.r x2),(.b x3),(.i x4),(.r x5)])) .fail) (.br (inb (qw .i64 x4 1) 232) (.br (inb (qw .i64 x4 1) 232) (.br (ilt 1 x4) (.br (ine (qj .i64 (cI x5 (qw .i64 x4 1) 0) 1) 0) (.br (ilt 0 (u6 .i64 0 (qj .i64 (cI x5 (qw .i64 x4 1) 0) 1))) (.leaf (0,[(.i (q9E (u6 .i64 0 (qj .i64 (cI x5 (qw .i64 x4 1) 0) 1)) 999999999)),(.b x0),(.i x1),(.r x2),(.b x3),(.i x4),(.r x5)])) (.leaf (0,[(.i 1),(.b x0),(.i x1),(.r x2),(.b x3),(.i x4),(.r x5)]))) .fail) (.br (ine (cI x5 (qw .i64 x4 1) 0) 0) (.br (ilt 0 (u6 .i64 0 (cI x5 (qw .i64 x4 1) 0))) (.leaf (0,[(.i (q9E (u6 .i64 0 (cI x5 (qw .i64 x4 1) 0)) 999999999)),(.b x0),(.i x1),(.r x2),(.b x3),(.i x4),(.r x5)])) (.leaf (0,[(.i 1),(.b x0),(.i x1),(.r x2),(.b x3),(.i x4),(.r x5)]))) .fail)) .fail) .fail))) (.br (ile x1 (qw .i64 x4 1)) (.br (ilt (qw .i64 x4 1) 0) (.br (ilt 1 x4) (.leaf (0,[(.i 1),(.b x0),(.i x1),(.r x2),(.b x3),(.i x4),(.r x5)])) .fail) (.br (ile x4 (qw .i64 x4 1)) (.br (ilt 1 x4) (.leaf (0,[(.i 1),(.b x0),(.i x1),(.r x2),(.b x3),(.i x4),(.r x5)])) .fail) (.br (inb (qw .i64 x4 1) 232) (.br (inb (qw .i64 x4 1) 232) (.br (ilt 1 x4) (.br (ine (qj .i64 (cI x5 (qw .i64 x4 1) 0) 1) 0) (.br (ilt 0 (u6 .i64 0 (qj .i64 (cI x5 (qw .i64 x4 1) 0) 1))) (.leaf (0,[(.i (q9E (u6 .i64 0 (qj .i64 (cI x5 (qw .i64 x4 1) 0) 1)) 999999999)),(.b x0),(.i x1),(.r x2),(.b x3),(.i x4),(.r x5)])) (.leaf (0,[(.i 1),(.b x0),(.i x1),(.r x2),(.b x3),(.i x4),(.r x5)]))) .fail) (.br (ine (cI x5 (qw .i64 x4 1) 0) 0) (.br (ilt 0 (u6 .i64 0 (cI x5 (qw .i64 x4 1) 0))) (.leaf (0,[(.i (q9E (u6 .i64 0 (cI x5 (qw .i64 x4 1) 0)) 999999999)),(.b x0),(.i x1),(.r x2),(.b x3),(.i x4),(.r x5)])) (.leaf (0,[(.i 1),(.b x0),(.i x1),(.r x2),(.b x3),(.i x4),(.r x5)]))) .fail)) .fail) .fail))) (.br (inb (qw .i64 x4 1) 232) (.br (inb (qw .i64 x4 1) 232) (.br (ilt (qw .i64 x4 1) 0) (.br (ilt 1 x4) (.br (ilt 0 (u6 .i64 (qj .i64 0 (cI x2 (qw .i64 x4 1) 0)) 1)) (.leaf (0,[(.i (q9E (u6 .i64 (qj .i64 0 (cI x2 (qw .i64 x4 1) 0)) 1) 999999999)),(.b x0),(.i x1),(.r x2),(.b x3),(.i x4),(.r x5)])) (.leaf (0,[(.i 1),(.b x0),(.i x1),(.r x2),(.b x3),(.i x4),(.r x5)]))) .fail) (.br (ile x4 (qw .i64 x4 1)) (.br (ilt 1 x4) (.br (ilt 0 (u6 .i64 (qj .i64 0 (cI x2 (qw .i64 x4 1) 0)) 1)) (.leaf (0,[(.i (q9E (u6 .i64 (qj .i64 0 (cI x2 (qw .i64 x4 1) 0)) 1) 999999999)),(.b x0),(.i x1),(.r x2),(.b x3),(.i x4),(.r x5)])) (.leaf (0,[(.i 1),(.b x0),(.i x1),(.r x2),(.b x3),(.i x4),(.r x5)]))) .fail) (.br (inb (qw .i64 x4 1) 232) (.br (inb (qw .i64 x4 1) 232) (.br (ilt 1 x4) (.br (ine (qj .i64 (cI x5 (qw .i64 x4 1) 0) 1) 0) (.br (ilt 0 (u6 .i64 (qj .i64 0 (cI x2 (qw .i64 x4 1) 0)) (qj .i64 (cI x5 (qw .i64 x4 1) 0) 1))) (.leaf (0,[(.i (q9E (u6 .i64 (qj .i64 0 (cI x2 (qw .i64 x4 1) 0)) (qj .i64 (cI x5 (qw .i64 x4 1) 0) 1)) 999999999)),(.b x0),(.i x1),(.r x2),(.b x3),(.i x4),(.r x5)])) (.leaf (0,[(.i 1),(.b x0),(.i x1),(.r x2),(.b x3),(.i x4),(.r x5)]))) .fail) (.br (ine (cI x5 (qw .i64 x4 1) 0) 0) (.br (ilt 0 (u6 .i64 (qj .i64 0 (cI x2 (qw .i64 x4 1) 0)) (cI x5 (qw .i64 x4 1) 0))) (.leaf (0,[(.i (q9E (u6 .i64 (qj .i64 0 (cI x2 (qw .i64 x4 1) 0)) (cI x5 (qw .i64 x4 1) 0)) 999999999)),(.b x0),(.i x1),(.r x2),(.b x3),(.i x4),(.r x5)])) (.leaf (0,[(.i 1),(.b x0),(.i x1),(.r x2),(.b x3),(.i x4),(.r x5)]))) .fail)) .fail) .fail))) .fail) .fail))) (.br (inb x4 232) (.br (inb x4 232) (.br (ilt (qw .i64 x4 1) 0) (.br (ilt (qw .i64 x4 1) 0) (.br (ilt 1 x4) (.br (ilt 0 (u6 .i64 (qj .i64 (uk .i64 (cI x2 x4 0) 1000000000) 0) 1)) (.leaf (0,[(.i (q9E (u6 .i64 (qj .i64 (uk .i64 (cI x2 x4 0) 1000000000) 0) 1) 999999999)),(.b x0),(.i x1),(.r x2),(.b x3),(.i x4),(.r x5)])) (.leaf (0,[(.i 1),(.b x0),(.i x1),(.r x2),(.b x3),(.i x4),(.r x5)]))) .fail) (.br (ile x4 (qw .i64 x4 1)) (.br (ilt 1 x4) (.br (ilt 0 (u6 .i64 (qj .i64 (uk .i64 (cI x2 x4 0) 1000000000) 0) 1)) (.leaf (0,[(.i (q9E (u6 .i64 (qj .i64 (uk .i64 (cI x2 x4 0) 1000000000) 0) 1) 999999999)),(.b x0),(.i x1),(.r x2),(.b x3),(.i x4),(.r x5)])) (.leaf (0,[(.i 1),(.b x0),(.i x1),(.r x2),(.b x3),(.i x4),(.r x5)]))) .fail) (.br (inb (qw .i64 x4 1) 232) (.br (inb (qw .i64 x4 1) 232) (.br (ilt 1 x4) (.br (ine (qj .i64 (cI x5 (qw .i64 x4 1) 0) 1) 0) (.br (ilt 0 (u6 .i64 (qj .i64 (uk .i64 (cI x2 x4 0) 1000000000) 0) (qj .i64 (cI x5 (qw .i64 x4 1) 0) 1))) (.leaf (0,[(.i (q9E (u6 .i64 (qj .i64 (uk .i64 (cI x2 x4 0) 1000000000) 0) (qj .i64 (cI x5 (qw .i64 x4 1) 0) 1)) 999999999)),(.b x0),(.i x1),(.r x2),(.b x3),(.i x4),(.r x5)])) (.leaf (0,[(.i 1),(.b x0),(.i x1),(.r x2),(.b x3),(.i x4),(.r x5)]))) .fail) (.br (ine (cI x5 (qw .i64 x4 1) 0) 0) (.br (ilt 0 (u6 .i64 (qj .i64 (uk .i64 (cI x2 x4 0) 1000000000) 0) (cI x5 (qw .i64 x4 1) 0))) (.leaf (0,[(.i (q9E (u6 .i64 (qj .i64 (uk .i64 (cI x2 x4 0) 1000000000) 0) (cI x5 (qw .i64 x4 1) 0)) 999999999)),(.b x0),(.i x1),(.r x2),(.b x3),(.i x4),(.r x5)])) (.leaf (0,[(.i 1),(.b x0),(.i x1),(.r x2),(.b x3),(.i x4),(.r x5)]))) .fail)) .fail) .fail))) (.br (ile x1 (qw .i64 x4 1)) (.br (ilt (qw .i64 x4 1) 0) (.br (ilt 1 x4) (.br (ilt 0 (u6 .i64 (qj .i64 (uk .i64 (cI x2 x4 0) 1000000000) 0) 1)) (.leaf (0,[(.i (q9E (u6 .i64 (qj .i64 (uk .i64 (cI x2 x4 0) 1000000000) 0) 1) 999999999)),(.b x0),(.i x1),(.r x2),(.b x3),(.i x4),(.r x5)])) (.leaf (0,[(.i 1),(.b x0),(.i x1),(.r x2),(.b x3),(.i x4),(.r x5)]))) .fail) (.br (ile x4 (qw .i64 x4 1)) (.br (ilt 1 x4) (.br (ilt 0 (u6 .i64 (qj .i64 (uk .i64 (cI x2 x4 0) 1000000000) 0) 1)) (.leaf (0,[(.i (q9E (u6 .i64 (qj .i64 (uk .i64 (cI x2 x4 0) 1000000000) 0) 1) 999999999)),(.b x0),(.i x1),(.r x2),(.b x3),(.i x4),(.r x5)])) (.leaf (0,[(.i 1),(.b x0),(.i x1),(.r x2),(.b x3),(.i x4),(.r x5)]))) .fail) (.br (inb (qw .i64 x4 1) 232) (.br (inb (qw .i64 x4 1) 232) (.br (ilt 1 x4) (.br (ine (qj .i64 (cI x5 (qw .i64 x4 1) 0) 1) 0) (.br (ilt 0 (u6 .i64 (qj .i64 (uk .i64 (cI x2 x4 0) 1000000000) 0) (qj .i64 (cI x5 (qw .i64 x4 1) 0) 1))) (.leaf (0,[(.i (q9E (u6 .i64 (qj .i64 (uk .i64 (cI x2 x4 0) 1000000000) 0) (qj .i64 (cI x5 (qw .i64 x4 1) 0) 1)) 999999999)),(.b x0),(.i x1),(.r x2),(.b x3),(.i x4),(.r x5)])) (.leaf (0,[(.i 1),(.b x0),(.i x1),(.r x2),(.b x3),(.i x4),(.r x5)]))) .fail) (.br (ine (cI x5 (qw .i64 x4 1) 0) 0) (.br (ilt 0 (u6 .i64 (qj .i64 (uk .i64 (cI x2 x4 0) 1000000000) 0) (cI x5 (qw .i64 x4 1) 0))) (.leaf (0,[(.i (q9E (u6 .i64 (qj .i64 (uk .i64 (cI x2 x4 0) 1000000000) 0) (cI x5 (qw .i64 x4 1) 0)) 999999999)),(.b x0),(.i x1),(.r x2),(.b x3),(.i x4),(.r x5)])) (.leaf (0,[(.i 1),(.b x0),(.i x1),(.r x2),(.b x3),(.i x4),(.r x5)]))) .fail)) .fail) .fail))) (.br (inb (qw .i64 x4 1) 232) (.br (inb (qw .i64 x4 1) 232) (.br (ilt (qw .i64 x4 1) 0) (.br (ilt 1 x4) (.br (ilt 0 (u6 .i64 (qj .i64 (uk .i64 (cI x2 x4 0) 1000000000) (cI x2 (qw .i64 x4 1) 0)) 1)) (.leaf (0,[(.i (q9E (u6 .i64 (qj .i64 (uk .i64 (cI x2 x4 0) 1000000000) (cI x2 (qw .i64 x4 1) 0)) 1) 999999999)),(.b x0),(.i x1),(.r x2),(.b x3),(.i x4),(.r x5)])) (.leaf (0,[(.i 1),(.b x0),(.i x1),(.r x2),(.b x3),(.i x4),(.r x5)]))) .fail) (.br (ile x4 (qw .i64 x4 1)) (.br (ilt 1 x4) (.br (ilt 0 (u6 .i64 (qj .i64 (uk .i64 (cI x2 x4 0) 1000000000) (cI x2 (qw .i64 x4 1) 0)) 1)) (.leaf (0,[(.i (q9E (u6 .i64 (qj .i64 (uk .i64 (cI x2 x4 0) 1000000000) (cI x2 (qw .i64 x4 1) 0)) 1) 999999999)),(.b x0),(.i x1),(.r x2),(.b x3),(.i x4),(.r x5)])) (.leaf (0,[(.i 1),(.b x0),(.i x1),(.r x2),(.b x3),(.i x4),(.r x5)]))) .fail) (.br (inb (qw .i64 x4 1) 232) (.br (inb (qw .i64 x4 1) 232) (.br (ilt 1 x4) (.br (ine (qj .i64 (cI x5 (qw .i64 x4 1) 0) 1) 0) (.br (ilt 0 (u6 .i64 (qj .i64 (uk .i64 (cI x2 x4 0) 1000000000) (cI x2 (qw .i64 x4 1) 0)) (qj .i64 (cI x5 (qw .i64 x4 1) 0) 1))) (.leaf (0,[(.i (q9E (u6 .i64 (qj .i64 (uk .i64 (cI x2 x4 0) 1000000000) (cI x2 (qw .i64 x4 1) 0)) (qj .i64 (cI x5 (qw .i64 x4 1) 0) 1)) 999999999)),(.b x0),(.i x1),(.r x2),(.b x3),(.i x4),(.r x5)])) (.leaf (0,[(.i 1),(.b x0),(.i x1),(.r x2),(.b x3),(.i x4),(.r x5)]))) .fail) (.br (ine (cI x5 (qw .i64 x4 1) 0) 0) (.br (ilt 0 (u6 .i64 (qj .i64 (uk .i64 (cI x2 x4 0) 1000000000) (cI x2 (qw .i64 x4 1) 0)) (cI x5 (qw .i64 x4 1) 0))) (.leaf (0,[(.i (q9E (u6 .i64 (qj .i64 (uk .i64 (cI x2 x4 0) 1000000000) (cI x2 (qw .i64 x4 1) 0)) (cI x5 (qw .i64 x4 1) 0)) 999999999)),(.b x0),(.i x1),(.r x2),(.b x3),(.i x4),(.r x5)])) (.leaf (0,[(.i 1),(.b x0),(.i x1),(.r x2),(.b x3),(.i x4),(.r x5)]))) .fail)) .fail) .fail))) .fail) .fail))) .fail) .fail))):=by kernel_rfl
theorem qhu(y0:Int)(y1:Int)(y2:Bool)(y3:Int)(y4:R)(y5:Bool)(y6:Int)(y7:R)(y8:Bool)(y9:Int)(y10:R)(y11:Bool)(y12:Int)(y13:R):yq [.i y0,.i y1,.b y2,.i y3,.r y4,.b y5,.i y6,.r y7,.b y8,.i y9,.r y10,.b y11,.i y12,.r y13]=(let r0:TR:=(zL [(.b y11),(.i y12),(.r y13),(.b y5),(.i y6),(.r y7)])
 .br (okR r0) (.br (ile 0 (gI r0 0)) (let r1:TR:=(yG [(.b (gB r0 1)),(.i (gI r0 2)),(.r (gR r0 3)),(.b (gB r0 4)),(.i (gI r0 5)),(.r (gR r0 6))])
 .br (okR r1) (let r2:TR:=(qL [(.i (qw .i64 0 (gI r1 0))),(.i 0),(.b (gB r1 1)),(.i (gI r1 2)),(.r (gR r1 3)),(.b (gB r1 4)),(.i (gI r1 5)),(.r (gR r1 6))])
 .br (okR r2) (.leaf (0,[(.i y0),(.i (qj .i64 y1 (gI r1 0))),(.b y2),(.i y3),(.r y4),(.b (gB r2 3)),(.i (gI r2 4)),(.r (gR r2 5)),(.b y8),(.i y9),(.r y10),(.b (gB r2 0)),(.i (gI r2 1)),(.r (gR r2 2))])) .fail) .fail) (.leaf (1,[(.i y0),(.i y1),(.b y2),(.i y3),(.r y4),(.b (gB r0 4)),(.i (gI r0 5)),(.r (gR r0 6)),(.b y8),(.i y9),(.r y10),(.b (gB r0 1)),(.i (gI r0 2)),(.r (gR r0 3))]))) .fail):=by kernel_rfl
theorem qjc(y0:Int)(y1:Bool)(y2:Int)(y3:R)(y4:Bool)(y5:Int)(y6:R)(y7:Bool)(y8:Int)(y9:R)(y10:Bool)(y11:Int)(y12:R):q0a [.i y0,.b y1,.i y2,.r y3,.b y4,.i y5,.r y6,.b y7,.i y8,.r y9,.b y10,.i y11,.r y12]=(.br (ile 0 y0) (.br (q6O 232 232) (.br (q6O 1 232) (.br (q6O y11 232) (.br (q6O 0 y11) (.br (inb y0 232) (.br (inb y0 232) (let r0:TR:=(qB [(.b y10),(.i (qj .i64 y11 1)),(.r (q6W (qit y12 1 y12 0 (q9E (qvw y11 0) (qvw 232 1))) 0 0 [(.i (cI y3 y0 0))]))])
 .br (okR r0) (let r1:TR:=(qh yq [(.i y0),(.i 0),(.b y1),(.i y2),(.r y3),(.b y4),(.i y5),(.r y6),(.b y7),(.i y8),(.r y9),(.b (gB r0 0)),(.i (gI r0 1)),(.r (gR r0 2))])
 .br (okR r1) (.br (inb (gI r1 0) 232) (.br (inb (gI r1 0) 232) (.leaf (0,[(.i (qw .i64 (gI r1 0) 1)),(.b (gB r1 2)),(.i (gI r1 3)),(.r (gR r1 4)),(.b (gB r1 5)),(.i (gI r1 6)),(.r (gR r1 7)),(.b (gB r1 8)),(.i (qer (gI r1 9) (qj .i64 (gI r1 0) 1))),(.r (q6W (gR r1 10) (gI r1 0) 0 [(.i (gI r1 1))])),(.b (gB r1 11)),(.i (gI r1 12)),(.r (gR r1 13))])) .fail) .fail) .fail) .fail) .fail) .fail) .fail) .fail) .fail) .fail) (.leaf (1,[(.b y1),(.i y2),(.r y3),(.b y4),(.i y5),(.r y6),(.b y7),(.i y8),(.r y9),(.b y10),(.i y11),(.r y12)]))):=by kernel_rfl
theorem qlZ(x0:Bool)(x1:Int)(x2:R)(x3:Bool)(x4:Int)(x5:R):wO [.b x0,.i x1,.r x2,.b x3,.i x4,.r x5]=(let r0:TR:=(qh q0a [(.i (qw .i64 x1 1)),(.b x0),(.i x1),(.r x2),(.b x3),(.i x4),(.r x5),(.b false),(.i 0),(.r (q3x 232 [(.i 0)])),(.b false),(.i 0),(.r (q3x 232 [(.i 0)]))])
 .br (okR r0) (let r1:TR:=(qB [(.b (gB r0 6)),(.i (gI r0 7)),(.r (gR r0 8))])
 .br (okR r1) (.leaf (0,[(.b (gB r0 0)),(.i (gI r0 1)),(.r (gR r0 2)),(.b (gB r0 3)),(.i (gI r0 4)),(.r (gR r0 5)),(.b (gB r1 0)),(.i (gI r1 1)),(.r (gR r1 2)),(.b (gB r0 9)),(.i (gI r0 10)),(.r (gR r0 11))])) .fail) .fail):=by kernel_rfl
theorem qnz(y0:Int)(y1:Int):q1O [.i y0,.i y1]=(.br (ine y1 0) (.br (ine y1 0) (.leaf (0,[(.i y1),(.i (q69 y0 y1))])) .fail) (.leaf (1,[(.i y0)]))):=by kernel_rfl
theorem qoO(y0:Bool)(y1:Int)(y2:R)(y3:Bool)(y4:Int)(y5:R):q5g [.b y0,.i y1,.r y2,.b y3,.i y4,.r y5]=(.br (ilt 0 y4) (.br (ile y1 1) (.br (ile y4 1) (let r0:TR:=(qh q1O [(.i (cI y2 0 0)),(.i (cI y5 0 0))])
 .br (okR r0) (let r1:TR:=(zx [(.i (gI r0 0))])
 .br (okR r1) (.leaf (2,[(.s (gS r1 0)),(.i 0)])) .fail) .fail) (let r0:TR:=(wO [(.b y0),(.i y1),(.r y2),(.b y3),(.i y4),(.r y5)])
 .br (okR r0) (.leaf (0,[(.b (gB r0 3)),(.i (gI r0 4)),(.r (gR r0 5)),(.b (gB r0 9)),(.i (gI r0 10)),(.r (gR r0 11))])) .fail)) (let r0:TR:=(wO [(.b y0),(.i y1),(.r y2),(.b y3),(.i y4),(.r y5)])
 .br (okR r0) (.leaf (0,[(.b (gB r0 3)),(.i (gI r0 4)),(.r (gR r0 5)),(.b (gB r0 9)),(.i (gI r0 10)),(.r (gR r0 11))])) .fail)) (.leaf (1,[(.b y0),(.i y1),(.r y2)]))):=by kernel_rfl
theorem qsn(x0:List UInt8)(x1:List UInt8):q2j [.s x0,.s x1]=(let r0:TR:=(zY [(.r [[(.s x0)],[(.s x1)]])])
 .br (okR r0) (.br (ine (gI r0 0) 0) (.leaf (0,[(.s []),(.i (gI r0 0))])) (let r1:TR:=(zG [(.s x0)])
 .br (okR r1) (let r2:TR:=(zG [(.s x1)])
 .br (okR r2) (let r3:TR:=(qh q5g [(.b (gB r1 0)),(.i (gI r1 1)),(.r (gR r1 2)),(.b (gB r2 0)),(.i (gI r2 1)),(.r (gR r2 2))])
 .br (okR r3) (.br (jIs r3 0) (let r4:TR:=(qM [(.b false),(.i (gI r3 1)),(.r (gR r3 2))])
 .br (okR r4) (.leaf (0,[(.s (gS r4 0)),(.i 0)])) .fail) (.leaf (0,[(.s (gS r3 0)),(.i (gI r3 1))]))) .fail) .fail) .fail)) .fail):=by kernel_rfl
theorem qoN(x0:List UInt8):vZ [.s x0]=(let r0:TR:=(qR [(.s x0)])
 .br (okR r0) (let r1:TR:=(qP [(.s (gS r0 0))])
 .br (okR r1) (let r2:TR:=(qP [(.s (gS r0 1))])
 .br (okR r2) (.br (ieq (gI r1 0) 3) (.leaf (0,[(.i 3)])) (.br (ieq (gI r2 0) 3) (.leaf (0,[(.i 3)])) (.br (ine (gI r1 0) 0) (.leaf (0,[(.i (qer (gI r1 0) (gI r2 0)))])) (.br (ine (gI r2 0) 0) (.leaf (0,[(.i (qer (gI r1 0) (gI r2 0)))])) (.br (not (gB r0 2)) (.leaf (0,[(.i 0)])) (let r3:TR:=(q2y [(.s (gS r0 1)),(.s [49])])
 .br (okR r3) (let r4:TR:=(q2j [(.s (gS r0 0)),(.s (gS r0 1))])
 .br (okR r4) (.br (ine (gI r3 1) 0) (.leaf (0,[(.i 3)])) (.br (ine (gI r4 1) 0) (.leaf (0,[(.i 3)])) (.br (ile (gI r3 0) 0) (.leaf (0,[(.i 3)])) (.br (not (seq (gS r4 0) [49])) (.leaf (0,[(.i 3)])) (.leaf (0,[(.i 0)])))))) .fail) .fail)))))) .fail) .fail) .fail):=by kernel_rfl
theorem q4s(y0:Int)(y1:Int)(y2:List UInt8)(y3:List UInt8)(y4:List UInt8)(y5:R):q2e [.i y0,.i y1,.s y2,.s y3,.s y4,.r y5]=(.br (ilt y1 y0) (.br (inb y1 (qf y5)) (let r0:TR:=(vZ [(.s (cS y5 y1 0))])
 .br (okR r0) (.br (ine (gI r0 0) 0) (.leaf (2,[(.i (gI r0 0))])) (.leaf (0,[(.i y0),(.i (qj .i64 y1 1)),(.s y2),(.s y3),(.s y4),(.r y5)]))) .fail) .fail) (.leaf (1,[(.s y2),(.s y3),(.s y4)]))):=by kernel_rfl
theorem qoR(x0:List UInt8)(x1:List UInt8)(x2:List UInt8):q2W [.s x0,.s x1,.s x2]=(let r0:TR:=(qh q2e [(.i (qf [[(.s x0)],[(.s x1)],[(.s x2)]])),(.i 0),(.s x0),(.s x1),(.s x2),(.r [[(.s x0)],[(.s x1)],[(.s x2)]])])
 .br (okR r0) (.br (jIs r0 0) (.br (inb 0 (qu (gS r0 2))) (.br (ieq (sat (gS r0 2) 0) 45) (.leaf (0,[(.i 2)])) (.leaf (0,[(.i 0)]))) .fail) (.leaf (0,[(.i (gI r0 0))]))) .fail):=by kernel_rfl
theorem qfD(y0:R)(y1:R)(y2:Int)(y3:Int):q4e [.r y0,.r y1,.i y2,.i y3]=(.br (ilt y3 y2) (.br (inb y3 (qf y1)) (let r0:TR:=(q2W [(.s (cS y1 y3 0)),(.s (cS y1 y3 1)),(.s (cS y1 y3 2))])
 .br (okR r0) (.br (ine (gI r0 0) 0) (.leaf (2,[(.i (gI r0 0))])) (.leaf (0,[(.r y0),(.r y1),(.i y2),(.i (qj .i64 y3 1))]))) .fail) .fail) (.leaf (1,[(.r y0)]))):=by kernel_rfl
theorem qqn(x0:R):zI [.r x0]=(.br (ilt 64 (qf x0)) (.leaf (0,[(.i 5)])) (let r0:TR:=(qh q4e [(.r x0),(.r x0),(.i (qf x0)),(.i 0)])
 .br (okR r0) (.br (jIs r0 0) (.br (ieq (qf (gR r0 0)) 0) (.leaf (0,[(.i 13)])) (.leaf (0,[(.i 0)]))) (.leaf (0,[(.i (gI r0 0))]))) .fail)):=by kernel_rfl
theorem qp0(x0:List UInt8)(x1:List UInt8):yZ [.s x0,.s x1]=(.br (ilt 9 (qu x0)) (.leaf (0,[(.i 0),(.i 0),(.b false)])) (.br (ilt 9 (qu x1)) (.leaf (0,[(.i 0),(.i 0),(.b false)])) (.br (okR (vO [(.s x0)])) (.br (okR (vO [(.s x1)])) (.leaf (0,[(.i (gI (vO [(.s x0)]) 0)),(.i (gI (vO [(.s x1)]) 0)),(.b true)])) .fail) .fail))):=by kernel_rfl
theorem qni(x0:Int):kT [.i x0]=(.br (okR (zx [(.i x0)])) (.leaf (0,[(.s (gS (zx [(.i x0)]) 0)),(.i 0)])) .fail):=by kernel_rfl
theorem qez(y0:Int)(y1:Int)(y2:Bool)(y3:Int)(y4:R)(y5:Bool)(y6:Int)(y7:R)(y8:Bool)(y9:Int)(y10:R):yR [.i y0,.i y1,.b y2,.i y3,.r y4,.b y5,.i y6,.r y7,.b y8,.i y9,.r y10]=(.br (ilt y1 y0) (.br (inb y1 232) (.br (inb y1 232) (let r0:TR:=(qL [(.i (cI y7 y1 0)),(.i y1),(.b y8),(.i y9),(.r y10),(.b y2),(.i y3),(.r y4)])
 .br (okR r0) (.leaf (0,[(.i y0),(.i (qj .i64 y1 1)),(.b (gB r0 3)),(.i (gI r0 4)),(.r (gR r0 5)),(.b y5),(.i y6),(.r y7),(.b (gB r0 0)),(.i (gI r0 1)),(.r (gR r0 2))])) .fail) .fail) .fail) (.leaf (1,[(.b y2),(.i y3),(.r y4),(.b y5),(.i y6),(.r y7),(.b y8),(.i y9),(.r y10)]))):=by kernel_rfl
theorem qhA(x0:Bool)(x1:Int)(x2:R)(x3:Bool)(x4:Int)(x5:R):km [.b x0,.i x1,.r x2,.b x3,.i x4,.r x5]=(let r0:TR:=(qh yR [(.i x4),(.i 0),(.b x0),(.i x1),(.r x2),(.b x3),(.i x4),(.r x5),(.b (not (beq x0 x3))),(.i 0),(.r (q3x 232 [(.i 0)]))])
 .br (okR r0) (.leaf (0,[(.b (gB r0 0)),(.i (gI r0 1)),(.r (gR r0 2)),(.b (gB r0 3)),(.i (gI r0 4)),(.r (gR r0 5)),(.b (gB r0 6)),(.i (gI r0 7)),(.r (gR r0 8))])) .fail):=by kernel_rfl
theorem qfq(x0:Bool)(x1:Int)(x2:R):zW [.b x0,.i x1,.r x2]=(let r0:TR:=(qM [(.b x0),(.i x1),(.r x2)])
 .br (okR r0) (let r1:TR:=(qP [(.s (gS r0 0))])
 .br (okR r1) (.br (ine (gI r1 0) 0) (.leaf (0,[(.s []),(.i (gI r1 0)),(.b (gB r0 1)),(.i (gI r0 2)),(.r (gR r0 3))])) (.leaf (0,[(.s (gS r0 0)),(.i 0),(.b (gB r0 1)),(.i (gI r0 2)),(.r (gR r0 3))]))) .fail) .fail):=by kernel_rfl
theorem qtT(x0:List UInt8)(x1:List UInt8):q4O [.s x0,.s x1]=(let r0:TR:=(zY [(.r [[(.s x0)],[(.s x1)]])])
 .br (okR r0) (.br (ine (gI r0 0) 0) (.leaf (0,[(.s []),(.i (gI r0 0))])) (let r1:TR:=(yZ [(.s x0),(.s x1)])
 .br (okR r1) (.br (gB r1 2) (let r2:TR:=(kT [(.i (uk .i64 (gI r1 0) (gI r1 1)))])
 .br (okR r2) (.leaf (0,[(.s (gS r2 0)),(.i (gI r2 1))])) .fail) (let r2:TR:=(zG [(.s x0)])
 .br (okR r2) (let r3:TR:=(zG [(.s x1)])
 .br (okR r3) (let r4:TR:=(km [(.b (gB r2 0)),(.i (gI r2 1)),(.r (gR r2 2)),(.b (gB r3 0)),(.i (gI r3 1)),(.r (gR r3 2))])
 .br (okR r4) (let r5:TR:=(zW [(.b (gB r4 6)),(.i (gI r4 7)),(.r (gR r4 8))])
 .br (okR r5) (.leaf (0,[(.s (gS r5 0)),(.i (gI r5 1))])) .fail) .fail) .fail) .fail)) .fail)) .fail):=by kernel_rfl
theorem qaf(x0:List UInt8)(x1:List UInt8)(x2:Int):zV [.s x0,.s x1,.i x2]=(.br (ine x2 0) (.leaf (0,[(.s [48]),(.i x2)])) (let r0:TR:=(q4O [(.s x0),(.s x1)])
 .br (okR r0) (.br (ine (gI r0 1) 0) (.leaf (0,[(.s [48]),(.i (gI r0 1))])) (.leaf (0,[(.s (gS r0 0)),(.i (gI r0 1))]))) .fail)):=by kernel_rfl
theorem q9V(y0:List UInt8)(y1:R)(y2:Int)(y3:Int)(y4:Int):yb [.s y0,.r y1,.i y2,.i y3,.i y4]=(.br (ilt y3 y2) (.br (inb y3 (qf y1)) (let r0:TR:=(zV [(.s y0),(.s (cS y1 y3 0)),(.i y4)])
 .br (okR r0) (.leaf (0,[(.s (gS r0 0)),(.r y1),(.i y2),(.i (qj .i64 y3 1)),(.i (gI r0 1))])) .fail) .fail) (.leaf (1,[(.s y0),(.i y4)]))):=by kernel_rfl
theorem qkA(x0:R)(x1:Int):qg [.r x0,.i x1]=(let r0:TR:=(qh yb [(.s [49]),(.r x0),(.i (qf x0)),(.i 0),(.i x1)])
 .br (okR r0) (.leaf (0,[(.s (gS r0 0)),(.i (gI r0 1))])) .fail):=by kernel_rfl
theorem qjG(x0:Bool)(x1:Int)(x2:R)(x3:Bool)(x4:Int)(x5:R):wy [.b x0,.i x1,.r x2,.b x3,.i x4,.r x5]=(.br (beq x0 x3) (let r0:TR:=(qL [(.i 1),(.i 0),(.b x0),(.i x1),(.r x2),(.b x3),(.i x4),(.r x5)])
 .br (okR r0) (.leaf (0,[(.b (gB r0 0)),(.i (gI r0 1)),(.r (gR r0 2)),(.b (gB r0 3)),(.i (gI r0 4)),(.r (gR r0 5))])) .fail) (let r0:TR:=(zL [(.b x0),(.i x1),(.r x2),(.b x3),(.i x4),(.r x5)])
 .br (okR r0) (.br (ile 0 (gI r0 0)) (let r1:TR:=(qL [(.i (-1)),(.i 0),(.b (gB r0 1)),(.i (gI r0 2)),(.r (gR r0 3)),(.b (gB r0 4)),(.i (gI r0 5)),(.r (gR r0 6))])
 .br (okR r1) (.leaf (0,[(.b (gB r1 0)),(.i (gI r1 1)),(.r (gR r1 2)),(.b (gB r1 3)),(.i (gI r1 4)),(.r (gR r1 5))])) .fail) (let r1:TR:=(qL [(.i (-1)),(.i 0),(.b (gB r0 4)),(.i (gI r0 5)),(.r (gR r0 6)),(.b (gB r0 1)),(.i (gI r0 2)),(.r (gR r0 3))])
 .br (okR r1) (.leaf (0,[(.b (gB r1 0)),(.i (gI r1 1)),(.r (gR r1 2)),(.b (gB r0 4)),(.i (gI r0 5)),(.r (gR r0 6))])) .fail)) .fail)):=by kernel_rfl
theorem qbr(y0:R)(y1:Int)(y2:Int)(y3:Bool)(y4:Int)(y5:R):q5N [.r y0,.i y1,.i y2,.b y3,.i y4,.r y5]=(.br (ilt y2 y1) (.br (inb y2 (qf y0)) (let r0:TR:=(zG [(.s (cS y0 y2 0))])
 .br (okR r0) (let r1:TR:=(wy [(.b y3),(.i y4),(.r y5),(.b (gB r0 0)),(.i (gI r0 1)),(.r (gR r0 2))])
 .br (okR r1) (.leaf (0,[(.r y0),(.i y1),(.i (qj .i64 y2 1)),(.b (gB r1 0)),(.i (gI r1 1)),(.r (gR r1 2))])) .fail) .fail) .fail) (.leaf (1,[(.b y3),(.i y4),(.r y5)]))):=by kernel_rfl
theorem qt6(x0:R):qa7 [.r x0]=(let r0:TR:=(qh q5N [(.r x0),(.i (qf x0)),(.i 0),(.b false),(.i 0),(.r (q3x 232 [(.i 0)]))])
 .br (okR r0) (let r1:TR:=(zW [(.b (gB r0 0)),(.i (gI r0 1)),(.r (gR r0 2))])
 .br (okR r1) (.leaf (0,[(.s (gS r1 0)),(.i (gI r1 1))])) .fail) .fail):=by kernel_rfl
theorem qtE(x0:List UInt8)(x1:List UInt8):q2B [.s x0,.s x1]=(let r0:TR:=(zY [(.r [[(.s x0)],[(.s x1)]])])
 .br (okR r0) (.br (ine (gI r0 0) 0) (.leaf (0,[(.s []),(.i (gI r0 0))])) (let r1:TR:=(yZ [(.s x0),(.s x1)])
 .br (okR r1) (.br (gB r1 2) (let r2:TR:=(kT [(.i (qj .i64 (gI r1 0) (gI r1 1)))])
 .br (okR r2) (.leaf (0,[(.s (gS r2 0)),(.i (gI r2 1))])) .fail) (let r2:TR:=(qa7 [(.r [[(.s x0)],[(.s x1)]])])
 .br (okR r2) (.leaf (0,[(.s (gS r2 0)),(.i (gI r2 1))])) .fail)) .fail)) .fail):=by kernel_rfl
theorem qk4(x0:List UInt8):q1m [.s x0]=(let r0:TR:=(ug [(.s x0)])
 .br (okR r0) (.br (ieq (gI r0 0) 0) (.leaf (0,[(.s x0)])) (.br (ieq (gI r0 0) 1) (.br (ile ((qu [45])+(qu x0)) 140737488355328) (.leaf (0,[(.s (qbV [45] x0))])) .fail) (.br (q6O (qu x0) (qu x0)) (.br (q6O 1 (qu x0)) (.leaf (0,[(.s (qet x0 1 (qu x0)))])) .fail) .fail))) .fail):=by kernel_rfl
theorem qtV(x0:List UInt8)(x1:List UInt8):q6B [.s x0,.s x1]=(let r0:TR:=(zY [(.r [[(.s x0)],[(.s x1)]])])
 .br (okR r0) (.br (ine (gI r0 0) 0) (.leaf (0,[(.s []),(.i (gI r0 0))])) (let r1:TR:=(q1m [(.s x1)])
 .br (okR r1) (let r2:TR:=(q2B [(.s x0),(.s (gS r1 0))])
 .br (okR r2) (.leaf (0,[(.s (gS r2 0)),(.i (gI r2 1))])) .fail) .fail)) .fail):=by kernel_rfl
theorem qaj(x0:List UInt8)(x1:List UInt8)(x2:Int):wP [.s x0,.s x1,.i x2]=(.br (ine x2 0) (.leaf (0,[(.s [48]),(.i x2)])) (let r0:TR:=(q6B [(.s x0),(.s x1)])
 .br (okR r0) (.br (ine (gI r0 1) 0) (.leaf (0,[(.s [48]),(.i (gI r0 1))])) (.leaf (0,[(.s (gS r0 0)),(.i (gI r0 1))]))) .fail)):=by kernel_rfl
theorem qkr(x0:List UInt8)(x1:List UInt8)(x2:Int):zu [.s x0,.s x1,.i x2]=(let r0:TR:=(wP [(.s x0),(.s x1),(.i x2)])
 .br (okR r0) (.leaf (0,[(.s (gS r0 0)),(.i (gI r0 1))])) .fail):=by kernel_rfl
theorem qpl(x0:List UInt8)(x1:List UInt8)(x2:List UInt8)(x3:List UInt8)(x4:Int):q3n [.s x0,.s x1,.s x2,.s x3,.i x4]=(let r0:TR:=(qg [(.r [[(.s x0)],[(.s x3)]]),(.i x4)])
 .br (okR r0) (let r1:TR:=(qg [(.r [[(.s x2)],[(.s x1)]]),(.i (gI r0 1))])
 .br (okR r1) (let r2:TR:=(zu [(.s (gS r0 0)),(.s (gS r1 0)),(.i (gI r1 1))])
 .br (okR r2) (let r3:TR:=(qg [(.r [[(.s x1)],[(.s x3)]]),(.i (gI r2 1))])
 .br (okR r3) (.leaf (0,[(.s (gS r2 0)),(.s (gS r3 0)),(.i (gI r3 1))])) .fail) .fail) .fail) .fail):=by kernel_rfl
theorem qgh(x0:List UInt8)(x1:List UInt8):uF [.s x0,.s x1]=(let r0:TR:=(qG [(.s x0),(.s x1)])
 .br (okR r0) (.leaf (0,[(.b (gB r0 0))])) .fail):=by kernel_rfl
theorem qnn(x0:List UInt8)(x1:List UInt8):q1M [.s x0,.s x1]=(.br (seq x1 [49]) (.leaf (0,[(.s x0)])) (.br (ile ((qu x0)+(qu [47])) 140737488355328) (.br (ile ((qu (qbV x0 [47]))+(qu x1)) 140737488355328) (.leaf (0,[(.s (qbV (qbV x0 [47]) x1))])) .fail) .fail)):=by kernel_rfl
theorem qnZ(x0:List UInt8)(x1:List UInt8):q3X [.s x0,.s x1]=(let r0:TR:=(zY [(.r [[(.s x0)],[(.s x1)]])])
 .br (okR r0) (.br (ine (gI r0 0) 0) (.leaf (0,[(.s []),(.s []),(.i (gI r0 0))])) (.br (seq x1 [48]) (.leaf (0,[(.s []),(.s []),(.i 10)])) (let r1:TR:=(yZ [(.s x0),(.s x1)])
 .br (okR r1) (.br (gB r1 2) (.br (ine (gI r1 1) 0) (.br (ine (gI r1 1) 0) (.br (ine (q69 (gI r1 0) (gI r1 1)) 0) (.br (not (beq (ilt (q69 (gI r1 0) (gI r1 1)) 0) (ilt (gI r1 1) 0))) (let r2:TR:=(zx [(.i (qw .i64 (u6 .i64 (gI r1 0) (gI r1 1)) 1))])
 .br (okR r2) (let r3:TR:=(zx [(.i (qj .i64 (q69 (gI r1 0) (gI r1 1)) (gI r1 1)))])
 .br (okR r3) (.leaf (0,[(.s (gS r2 0)),(.s (gS r3 0)),(.i 0)])) .fail) .fail) (let r2:TR:=(zx [(.i (u6 .i64 (gI r1 0) (gI r1 1)))])
 .br (okR r2) (let r3:TR:=(zx [(.i (q69 (gI r1 0) (gI r1 1)))])
 .br (okR r3) (.leaf (0,[(.s (gS r2 0)),(.s (gS r3 0)),(.i 0)])) .fail) .fail)) (let r2:TR:=(zx [(.i (u6 .i64 (gI r1 0) (gI r1 1)))])
 .br (okR r2) (let r3:TR:=(zx [(.i (q69 (gI r1 0) (gI r1 1)))])
 .br (okR r3) (.leaf (0,[(.s (gS r2 0)),(.s (gS r3 0)),(.i 0)])) .fail) .fail)) .fail) .fail) (let r2:TR:=(zG [(.s x0)])
 .br (okR r2) (let r3:TR:=(zG [(.s x1)])
 .br (okR r3) (let r4:TR:=(wO [(.b (gB r2 0)),(.i (gI r2 1)),(.r (gR r2 2)),(.b (gB r3 0)),(.i (gI r3 1)),(.r (gR r3 2))])
 .br (okR r4) (.br (ilt 0 (gI r4 10)) (.br (not (beq (gB r4 0) (gB r4 3))) (let r5:TR:=(wy [(.b true),(.i (gI r4 7)),(.r (gR r4 8)),(.b true),(.i 1),(.r (q6W (q3x 232 [(.i 0)]) 0 0 [(.i 1)]))])
 .br (okR r5) (let r6:TR:=(wy [(.b (gB r4 0)),(.i (gI r4 10)),(.r (gR r4 11)),(.b (gB r4 3)),(.i (gI r4 4)),(.r (gR r4 5))])
 .br (okR r6) (let r7:TR:=(qM [(.b (gB r5 0)),(.i (gI r5 1)),(.r (gR r5 2))])
 .br (okR r7) (let r8:TR:=(qM [(.b (gB r6 0)),(.i (gI r6 1)),(.r (gR r6 2))])
 .br (okR r8) (.leaf (0,[(.s (gS r7 0)),(.s (gS r8 0)),(.i 0)])) .fail) .fail) .fail) .fail) (let r5:TR:=(qM [(.b (not (beq (gB r4 0) (gB r4 3)))),(.i (gI r4 7)),(.r (gR r4 8))])
 .br (okR r5) (let r6:TR:=(qM [(.b (gB r4 0)),(.i (gI r4 10)),(.r (gR r4 11))])
 .br (okR r6) (.leaf (0,[(.s (gS r5 0)),(.s (gS r6 0)),(.i 0)])) .fail) .fail)) (let r5:TR:=(qM [(.b (not (beq (gB r4 0) (gB r4 3)))),(.i (gI r4 7)),(.r (gR r4 8))])
 .br (okR r5) (let r6:TR:=(qM [(.b (gB r4 0)),(.i (gI r4 10)),(.r (gR r4 11))])
 .br (okR r6) (.leaf (0,[(.s (gS r5 0)),(.s (gS r6 0)),(.i 0)])) .fail) .fail)) .fail) .fail) .fail)) .fail))) .fail):=by kernel_rfl
theorem qtC(x0:List UInt8)(x1:List UInt8):q6u [.s x0,.s x1]=(let r0:TR:=(q3X [(.s x0),(.s x1)])
 .br (okR r0) (.br (ine (gI r0 2) 0) (.leaf (0,[(.s []),(.i (gI r0 2))])) (let r1:TR:=(qP [(.s (gS r0 0))])
 .br (okR r1) (.br (ine (gI r1 0) 0) (.leaf (0,[(.s []),(.i (gI r1 0))])) (.leaf (0,[(.s (gS r0 0)),(.i 0)]))) .fail)) .fail):=by kernel_rfl
theorem qad(x0:List UInt8)(x1:List UInt8)(x2:Int):wU [.s x0,.s x1,.i x2]=(.br (ine x2 0) (.leaf (0,[(.s [48]),(.i x2)])) (let r0:TR:=(q2j [(.s x0),(.s x1)])
 .br (okR r0) (.br (ine (gI r0 1) 0) (.leaf (0,[(.s [48]),(.i (gI r0 1))])) (.leaf (0,[(.s (gS r0 0)),(.i (gI r0 1))]))) .fail)):=by kernel_rfl
theorem qah(x0:List UInt8)(x1:List UInt8)(x2:Int):qZ [.s x0,.s x1,.i x2]=(.br (ine x2 0) (.leaf (0,[(.s [48]),(.i x2)])) (let r0:TR:=(q6u [(.s x0),(.s x1)])
 .br (okR r0) (.br (ine (gI r0 1) 0) (.leaf (0,[(.s [48]),(.i (gI r0 1))])) (.leaf (0,[(.s (gS r0 0)),(.i (gI r0 1))]))) .fail)):=by kernel_rfl
theorem qgn(x0:List UInt8)(x1:List UInt8)(x2:Int):qD [.s x0,.s x1,.i x2]=(let r0:TR:=(wU [(.s x0),(.s x1),(.i x2)])
 .br (okR r0) (let r1:TR:=(uF [(.s x1),(.s [45])])
 .br (okR r1) (.br (gB r1 0) (let r2:TR:=(zu [(.s [48]),(.s (gS r0 0)),(.i (gI r0 1))])
 .br (okR r2) (.br (ine (gI r2 1) 0) (.leaf (0,[(.s []),(.i (gI r2 1))])) (let r3:TR:=(qZ [(.s x0),(.s (gS r2 0)),(.i (gI r2 1))])
 .br (okR r3) (let r4:TR:=(qZ [(.s x1),(.s (gS r2 0)),(.i (gI r3 1))])
 .br (okR r4) (let r5:TR:=(q1M [(.s (gS r3 0)),(.s (gS r4 0))])
 .br (okR r5) (.leaf (0,[(.s (gS r5 0)),(.i (gI r4 1))])) .fail) .fail) .fail)) .fail) (.br (ine (gI r0 1) 0) (.leaf (0,[(.s []),(.i (gI r0 1))])) (let r2:TR:=(qZ [(.s x0),(.s (gS r0 0)),(.i (gI r0 1))])
 .br (okR r2) (let r3:TR:=(qZ [(.s x1),(.s (gS r0 0)),(.i (gI r2 1))])
 .br (okR r3) (let r4:TR:=(q1M [(.s (gS r2 0)),(.s (gS r3 0))])
 .br (okR r4) (.leaf (0,[(.s (gS r4 0)),(.i (gI r3 1))])) .fail) .fail) .fail))) .fail) .fail):=by kernel_rfl
theorem qcI(y0:R)(y1:Int)(y2:Int):q1z [.r y0,.i y1,.i y2]=(.br (ilt y2 y1) (.br (inb y2 (qf y0)) (let r0:TR:=(vZ [(.s (cS y0 y2 0))])
 .br (okR r0) (.br (ine (gI r0 0) 0) (.leaf (2,[(.i (gI r0 0))])) (.leaf (0,[(.r y0),(.i y1),(.i (qj .i64 y2 1))]))) .fail) .fail) (.leaf (1,[]))):=by kernel_rfl
theorem qnt(x0:R):qX [.r x0]=(let r0:TR:=(qh q1z [(.r x0),(.i (qf x0)),(.i 0)])
 .br (okR r0) (.br (jIs r0 0) (.leaf (0,[(.i 0)])) (.leaf (0,[(.i (gI r0 0))]))) .fail):=by kernel_rfl
theorem qbz(x0:List UInt8)(x1:List UInt8):vH [.s x0,.s x1]=(let r0:TR:=(qX [(.r [[(.s x0)],[(.s x1)]])])
 .br (okR r0) (.br (ine (gI r0 0) 0) (.leaf (0,[(.s []),(.i (gI r0 0))])) (let r1:TR:=(qR [(.s x0)])
 .br (okR r1) (let r2:TR:=(qR [(.s x1)])
 .br (okR r2) (let r3:TR:=(q3n [(.s (gS r1 0)),(.s (gS r1 1)),(.s (gS r2 0)),(.s (gS r2 1)),(.i 0)])
 .br (okR r3) (.br (ine (gI r3 2) 0) (.leaf (0,[(.s []),(.i (gI r3 2))])) (.br (seq (gS r3 1) [48]) (.leaf (0,[(.s []),(.i 10)])) (let r4:TR:=(qD [(.s (gS r3 0)),(.s (gS r3 1)),(.i (gI r3 2))])
 .br (okR r4) (.leaf (0,[(.s (gS r4 0)),(.i (gI r4 1))])) .fail))) .fail) .fail) .fail)) .fail):=by kernel_rfl
theorem qtU(x0:List UInt8)(x1:List UInt8):q6e [.s x0,.s x1]=(let r0:TR:=(vH [(.s x0),(.s x1)])
 .br (okR r0) (.leaf (0,[(.s (gS r0 0)),(.i (gI r0 1))])) .fail):=by kernel_rfl
theorem qac(x0:List UInt8)(x1:List UInt8)(x2:Int):wW [.s x0,.s x1,.i x2]=(.br (ine x2 0) (.leaf (0,[(.s [48]),(.i x2)])) (let r0:TR:=(q6e [(.s x0),(.s x1)])
 .br (okR r0) (.br (ine (gI r0 1) 0) (.leaf (0,[(.s [48]),(.i (gI r0 1))])) (.leaf (0,[(.s (gS r0 0)),(.i (gI r0 1))]))) .fail)):=by kernel_rfl
theorem qk9(x0:List UInt8)(x1:List UInt8)(x2:Int):zg [.s x0,.s x1,.i x2]=(let r0:TR:=(wW [(.s x0),(.s x1),(.i x2)])
 .br (okR r0) (.leaf (0,[(.s (gS r0 0)),(.i (gI r0 1))])) .fail):=by kernel_rfl
theorem qjp(x0:List UInt8)(x1:List UInt8)(x2:List UInt8)(x3:List UInt8)(x4:Int):jv [.s x0,.s x1,.s x2,.s x3,.i x4]=(let r0:TR:=(zg [(.s x0),(.s x2),(.i x4)])
 .br (okR r0) (let r1:TR:=(zg [(.s x1),(.s x3),(.i (gI r0 1))])
 .br (okR r1) (.leaf (0,[(.s (gS r0 0)),(.s (gS r1 0)),(.i (gI r1 1))])) .fail) .fail):=by kernel_rfl
theorem qag(x0:List UInt8)(x1:List UInt8)(x2:Int):wQ [.s x0,.s x1,.i x2]=(.br (ine x2 0) (.leaf (0,[(.s [48]),(.i x2)])) (let r0:TR:=(q2B [(.s x0),(.s x1)])
 .br (okR r0) (.br (ine (gI r0 1) 0) (.leaf (0,[(.s [48]),(.i (gI r0 1))])) (.leaf (0,[(.s (gS r0 0)),(.i (gI r0 1))]))) .fail)):=by kernel_rfl
theorem qjT(x0:List UInt8)(x1:List UInt8)(x2:Int):yx [.s x0,.s x1,.i x2]=(let r0:TR:=(wQ [(.s x0),(.s x1),(.i x2)])
 .br (okR r0) (.leaf (0,[(.s (gS r0 0)),(.i (gI r0 1))])) .fail):=by kernel_rfl
theorem qoF(x0:List UInt8)(x1:List UInt8)(x2:List UInt8)(x3:List UInt8)(x4:Int):q2I [.s x0,.s x1,.s x2,.s x3,.i x4]=(let r0:TR:=(qg [(.r [[(.s x0)],[(.s x3)]]),(.i x4)])
 .br (okR r0) (let r1:TR:=(qg [(.r [[(.s x2)],[(.s x1)]]),(.i (gI r0 1))])
 .br (okR r1) (let r2:TR:=(yx [(.s (gS r0 0)),(.s (gS r1 0)),(.i (gI r1 1))])
 .br (okR r2) (let r3:TR:=(qg [(.r [[(.s x1)],[(.s x3)]]),(.i (gI r2 1))])
 .br (okR r3) (.leaf (0,[(.s (gS r2 0)),(.s (gS r3 0)),(.i (gI r3 1))])) .fail) .fail) .fail) .fail):=by kernel_rfl
theorem qbl(x0:List UInt8)(x1:List UInt8):vl [.s x0,.s x1]=(let r0:TR:=(qX [(.r [[(.s x0)],[(.s x1)]])])
 .br (okR r0) (.br (ine (gI r0 0) 0) (.leaf (0,[(.s []),(.i (gI r0 0))])) (let r1:TR:=(qR [(.s x0)])
 .br (okR r1) (let r2:TR:=(qR [(.s x1)])
 .br (okR r2) (let r3:TR:=(q2I [(.s (gS r1 0)),(.s (gS r1 1)),(.s (gS r2 0)),(.s (gS r2 1)),(.i 0)])
 .br (okR r3) (.br (ine (gI r3 2) 0) (.leaf (0,[(.s []),(.i (gI r3 2))])) (.br (seq (gS r3 1) [48]) (.leaf (0,[(.s []),(.i 10)])) (let r4:TR:=(qD [(.s (gS r3 0)),(.s (gS r3 1)),(.i (gI r3 2))])
 .br (okR r4) (.leaf (0,[(.s (gS r4 0)),(.i (gI r4 1))])) .fail))) .fail) .fail) .fail)) .fail):=by kernel_rfl
theorem qsy(x0:List UInt8)(x1:List UInt8):q6E [.s x0,.s x1]=(let r0:TR:=(vl [(.s x0),(.s x1)])
 .br (okR r0) (.leaf (0,[(.s (gS r0 0)),(.i (gI r0 1))])) .fail):=by kernel_rfl
theorem qai(x0:List UInt8)(x1:List UInt8)(x2:Int):wT [.s x0,.s x1,.i x2]=(.br (ine x2 0) (.leaf (0,[(.s [48]),(.i x2)])) (let r0:TR:=(q6E [(.s x0),(.s x1)])
 .br (okR r0) (.br (ine (gI r0 1) 0) (.leaf (0,[(.s [48]),(.i (gI r0 1))])) (.leaf (0,[(.s (gS r0 0)),(.i (gI r0 1))]))) .fail)):=by kernel_rfl
theorem qkP(x0:List UInt8)(x1:List UInt8)(x2:Int):zQ [.s x0,.s x1,.i x2]=(let r0:TR:=(wT [(.s x0),(.s x1),(.i x2)])
 .br (okR r0) (.leaf (0,[(.s (gS r0 0)),(.i (gI r0 1))])) .fail):=by kernel_rfl
theorem qpc(x0:List UInt8)(x1:List UInt8)(x2:List UInt8)(x3:List UInt8)(x4:Int):q2T [.s x0,.s x1,.s x2,.s x3,.i x4]=(let r0:TR:=(qg [(.r [[(.s x0)],[(.s x2)]]),(.i x4)])
 .br (okR r0) (let r1:TR:=(qg [(.r [[(.s x1)],[(.s x3)]]),(.i (gI r0 1))])
 .br (okR r1) (.leaf (0,[(.s (gS r0 0)),(.s (gS r1 0)),(.i (gI r1 1))])) .fail) .fail):=by kernel_rfl
theorem qbd(x0:List UInt8)(x1:List UInt8):vG [.s x0,.s x1]=(let r0:TR:=(qX [(.r [[(.s x0)],[(.s x1)]])])
 .br (okR r0) (.br (ine (gI r0 0) 0) (.leaf (0,[(.s []),(.i (gI r0 0))])) (let r1:TR:=(qR [(.s x0)])
 .br (okR r1) (let r2:TR:=(qR [(.s x1)])
 .br (okR r2) (let r3:TR:=(q2T [(.s (gS r1 0)),(.s (gS r1 1)),(.s (gS r2 0)),(.s (gS r2 1)),(.i 0)])
 .br (okR r3) (.br (ine (gI r3 2) 0) (.leaf (0,[(.s []),(.i (gI r3 2))])) (.br (seq (gS r3 1) [48]) (.leaf (0,[(.s []),(.i 10)])) (let r4:TR:=(qD [(.s (gS r3 0)),(.s (gS r3 1)),(.i (gI r3 2))])
 .br (okR r4) (.leaf (0,[(.s (gS r4 0)),(.i (gI r4 1))])) .fail))) .fail) .fail) .fail)) .fail):=by kernel_rfl
theorem qtm(x0:List UInt8)(x1:List UInt8):q14 [.s x0,.s x1]=(let r0:TR:=(vG [(.s x0),(.s x1)])
 .br (okR r0) (.leaf (0,[(.s (gS r0 0)),(.i (gI r0 1))])) .fail):=by kernel_rfl
theorem qal(x0:List UInt8)(x1:List UInt8)(x2:Int):wY [.s x0,.s x1,.i x2]=(.br (ine x2 0) (.leaf (0,[(.s [48]),(.i x2)])) (let r0:TR:=(q14 [(.s x0),(.s x1)])
 .br (okR r0) (.br (ine (gI r0 1) 0) (.leaf (0,[(.s [48]),(.i (gI r0 1))])) (.leaf (0,[(.s (gS r0 0)),(.i (gI r0 1))]))) .fail)):=by kernel_rfl
theorem qkH(x0:List UInt8)(x1:List UInt8)(x2:Int):z6 [.s x0,.s x1,.i x2]=(let r0:TR:=(wY [(.s x0),(.s x1),(.i x2)])
 .br (okR r0) (.leaf (0,[(.s (gS r0 0)),(.i (gI r0 1))])) .fail):=by kernel_rfl
theorem qkD(x0:List UInt8)(x1:List UInt8)(x2:List UInt8)(x3:List UInt8)(x4:Int):v7 [.s x0,.s x1,.s x2,.s x3,.i x4]=(let r0:TR:=(z6 [(.s x0),(.s x2),(.i x4)])
 .br (okR r0) (let r1:TR:=(z6 [(.s x1),(.s x3),(.i (gI r0 1))])
 .br (okR r1) (let r2:TR:=(zQ [(.s (gS r0 0)),(.s (gS r1 0)),(.i (gI r1 1))])
 .br (okR r2) (.leaf (0,[(.s (gS r2 0)),(.i (gI r2 1))])) .fail) .fail) .fail):=by kernel_rfl
theorem qp1(x0:List UInt8)(x1:List UInt8)(x2:List UInt8)(x3:List UInt8)(x4:Int):q32 [.s x0,.s x1,.s x2,.s x3,.i x4]=(let r0:TR:=(qg [(.r [[(.s x0)],[(.s x3)]]),(.i x4)])
 .br (okR r0) (let r1:TR:=(qg [(.r [[(.s x1)],[(.s x2)]]),(.i (gI r0 1))])
 .br (okR r1) (.leaf (0,[(.s (gS r0 0)),(.s (gS r1 0)),(.i (gI r1 1))])) .fail) .fail):=by kernel_rfl
theorem qbK(x0:List UInt8)(x1:List UInt8):vu [.s x0,.s x1]=(let r0:TR:=(qX [(.r [[(.s x0)],[(.s x1)]])])
 .br (okR r0) (.br (ine (gI r0 0) 0) (.leaf (0,[(.s []),(.i (gI r0 0))])) (let r1:TR:=(qR [(.s x0)])
 .br (okR r1) (let r2:TR:=(qR [(.s x1)])
 .br (okR r2) (let r3:TR:=(q32 [(.s (gS r1 0)),(.s (gS r1 1)),(.s (gS r2 0)),(.s (gS r2 1)),(.i 0)])
 .br (okR r3) (.br (ine (gI r3 2) 0) (.leaf (0,[(.s []),(.i (gI r3 2))])) (.br (seq (gS r3 1) [48]) (.leaf (0,[(.s []),(.i 10)])) (let r4:TR:=(qD [(.s (gS r3 0)),(.s (gS r3 1)),(.i (gI r3 2))])
 .br (okR r4) (.leaf (0,[(.s (gS r4 0)),(.i (gI r4 1))])) .fail))) .fail) .fail) .fail)) .fail):=by kernel_rfl
theorem qsr(x0:List UInt8)(x1:List UInt8):q6F [.s x0,.s x1]=(let r0:TR:=(qX [(.r [[(.s x0)],[(.s x1)]])])
 .br (okR r0) (.br (ine (gI r0 0) 0) (.leaf (0,[(.s []),(.i (gI r0 0))])) (.br (seq x1 [48]) (.leaf (0,[(.s []),(.i 10)])) (let r1:TR:=(vu [(.s x0),(.s x1)])
 .br (okR r1) (.leaf (0,[(.s (gS r1 0)),(.i (gI r1 1))])) .fail))) .fail):=by kernel_rfl
theorem qae(x0:List UInt8)(x1:List UInt8)(x2:Int):zS [.s x0,.s x1,.i x2]=(.br (ine x2 0) (.leaf (0,[(.s [48]),(.i x2)])) (let r0:TR:=(q6F [(.s x0),(.s x1)])
 .br (okR r0) (.br (ine (gI r0 1) 0) (.leaf (0,[(.s [48]),(.i (gI r0 1))])) (.leaf (0,[(.s (gS r0 0)),(.i (gI r0 1))]))) .fail)):=by kernel_rfl
theorem qi2(x0:R)(x1:Int)(x2:Int)(x3:Int)(x4:Int):vT [.r x0,.i x1,.i x2,.i x3,.i x4]=(.br (inb x1 (qf x0)) (.br (inb x2 (qf x0)) (.br (ieq x1 x2) (.leaf (0,[(.s (cS x0 x1 0)),(.s (cS x0 x1 1)),(.s [48]),(.s [48]),(.s [48]),(.b (ieq x3 0)),(.i x4)])) (let r0:TR:=(jv [(.s (cS x0 x2 0)),(.s (cS x0 x2 1)),(.s (cS x0 x1 0)),(.s (cS x0 x1 1)),(.i x4)])
 .br (okR r0) (let r1:TR:=(v7 [(.s (gS r0 0)),(.s (gS r0 1)),(.s (gS r0 0)),(.s (gS r0 1)),(.i (gI r0 2))])
 .br (okR r1) (.br (seq (gS r1 0) [48]) (.leaf (0,[(.s []),(.s []),(.s []),(.s []),(.s []),(.b false),(.i (gI r1 1))])) (let r2:TR:=(zQ [(.s (gS r1 0)),(.s (cS x0 x1 2)),(.i (gI r1 1))])
 .br (okR r2) (let r3:TR:=(zg [(.s (gS r2 0)),(.s (cS x0 x2 2)),(.i (gI r2 1))])
 .br (okR r3) (let r4:TR:=(z6 [(.s [50]),(.s (gS r1 0)),(.i (gI r3 1))])
 .br (okR r4) (let r5:TR:=(zS [(.s (gS r3 0)),(.s (gS r4 0)),(.i (gI r4 1))])
 .br (okR r5) (let r6:TR:=(z6 [(.s (gS r5 0)),(.s (gS r0 0)),(.i (gI r5 1))])
 .br (okR r6) (let r7:TR:=(zQ [(.s (cS x0 x1 0)),(.s (gS r6 0)),(.i (gI r6 1))])
 .br (okR r7) (let r8:TR:=(z6 [(.s (gS r5 0)),(.s (gS r0 1)),(.i (gI r7 1))])
 .br (okR r8) (let r9:TR:=(zQ [(.s (cS x0 x1 1)),(.s (gS r8 0)),(.i (gI r8 1))])
 .br (okR r9) (let r10:TR:=(zg [(.s [48]),(.s (gS r0 1)),(.i (gI r9 1))])
 .br (okR r10) (let r11:TR:=(zS [(.s (cS x0 x1 2)),(.s (gS r1 0)),(.i (gI r10 1))])
 .br (okR r11) (let r12:TR:=(z6 [(.s (gS r5 0)),(.s (gS r5 0)),(.i (gI r11 1))])
 .br (okR r12) (let r13:TR:=(zg [(.s (gS r11 0)),(.s (gS r12 0)),(.i (gI r12 1))])
 .br (okR r13) (.br (ilt x3 0) (let r14:TR:=(zg [(.s [48]),(.s (gS r0 0)),(.i (gI r13 1))])
 .br (okR r14) (.br (ieq (gI r14 1) 0) (.br (inb 0 (qu (gS r13 0))) (.br (ine (sat (gS r13 0) 0) 45) (.leaf (0,[(.s (gS r7 0)),(.s (gS r9 0)),(.s (gS r0 1)),(.s (gS r14 0)),(.s (gS r13 0)),(.b (beq (seq (gS r13 0) [48]) (ieq x3 0))),(.i (gI r14 1))])) (.leaf (0,[(.s (gS r7 0)),(.s (gS r9 0)),(.s (gS r0 1)),(.s (gS r14 0)),(.s (gS r13 0)),(.b false),(.i (gI r14 1))]))) .fail) (.leaf (0,[(.s (gS r7 0)),(.s (gS r9 0)),(.s (gS r0 1)),(.s (gS r14 0)),(.s (gS r13 0)),(.b false),(.i (gI r14 1))]))) .fail) (.br (ieq (gI r13 1) 0) (.br (inb 0 (qu (gS r13 0))) (.br (ine (sat (gS r13 0) 0) 45) (.leaf (0,[(.s (gS r7 0)),(.s (gS r9 0)),(.s (gS r10 0)),(.s (gS r0 0)),(.s (gS r13 0)),(.b (beq (seq (gS r13 0) [48]) (ieq x3 0))),(.i (gI r13 1))])) (.leaf (0,[(.s (gS r7 0)),(.s (gS r9 0)),(.s (gS r10 0)),(.s (gS r0 0)),(.s (gS r13 0)),(.b false),(.i (gI r13 1))]))) .fail) (.leaf (0,[(.s (gS r7 0)),(.s (gS r9 0)),(.s (gS r10 0)),(.s (gS r0 0)),(.s (gS r13 0)),(.b false),(.i (gI r13 1))])))) .fail) .fail) .fail) .fail) .fail) .fail) .fail) .fail) .fail) .fail) .fail) .fail)) .fail) .fail)) .fail) .fail):=by kernel_rfl
theorem qrn(x0:List UInt8):q7p [.s x0]=(let r0:TR:=(qP [(.s x0)])
 .br (okR r0) (.br (ine (gI r0 0) 0) (.leaf (0,[(.i 0),(.i (gI r0 0))])) (let r1:TR:=(ug [(.s x0)])
 .br (okR r1) (.leaf (0,[(.i (gI r1 0)),(.i 0)])) .fail)) .fail):=by kernel_rfl
theorem qiq(x0:List UInt8)(x1:Int):zy [.s x0,.i x1]=(.br (ine x1 0) (.leaf (0,[(.i 0),(.i x1)])) (let r0:TR:=(q7p [(.s x0)])
 .br (okR r0) (.leaf (0,[(.i (gI r0 0)),(.i (gI r0 1))])) .fail)):=by kernel_rfl
theorem qiG(x0:List UInt8)(x1:List UInt8)(x2:List UInt8)(x3:Int):ut [.s x0,.s x1,.s x2,.i x3]=(let r0:TR:=(zy [(.s x0),(.i x3)])
 .br (okR r0) (let r1:TR:=(zy [(.s x1),(.i (gI r0 1))])
 .br (okR r1) (let r2:TR:=(zy [(.s x2),(.i (gI r1 1))])
 .br (okR r2) (.br (ile 0 (uk .i64 (gI r0 0) (uk .i64 (gI r1 0) (gI r2 0)))) (.br (ine (gI r0 0) 0) (.leaf (0,[(.i (gI r0 0)),(.i (gI r2 1))])) (.leaf (0,[(.i (uk .i64 (gI r1 0) (gI r2 0))),(.i (gI r2 1))]))) (let r3:TR:=(qg [(.r [[(.s x0)],[(.s x0)]]),(.i (gI r2 1))])
 .br (okR r3) (let r4:TR:=(qg [(.r [[(.s x1)],[(.s x1)],[(.s x2)]]),(.i (gI r3 1))])
 .br (okR r4) (let r5:TR:=(zu [(.s (gS r3 0)),(.s (gS r4 0)),(.i (gI r4 1))])
 .br (okR r5) (let r6:TR:=(zy [(.s (gS r5 0)),(.i (gI r5 1))])
 .br (okR r6) (.leaf (0,[(.i (uk .i64 (gI r0 0) (gI r6 0))),(.i (gI r6 1))])) .fail) .fail) .fail) .fail)) .fail) .fail) .fail):=by kernel_rfl
theorem qir(x0:List UInt8)(x1:List UInt8)(x2:List UInt8)(x3:List UInt8)(x4:List UInt8):q0P [.s x0,.s x1,.s x2,.s x3,.s x4]=(let r0:TR:=(qX [(.r [[(.s x0)],[(.s x1)],[(.s x2)],[(.s x3)],[(.s x4)]])])
 .br (okR r0) (.br (ine (gI r0 0) 0) (.leaf (0,[(.i 0),(.i (gI r0 0))])) (.br (inb 0 (qu x2)) (.br (ieq (sat x2 0) 45) (.leaf (0,[(.i 0),(.i 2)])) (.br (inb 0 (qu x4)) (.br (ieq (sat x4 0) 45) (.leaf (0,[(.i 0),(.i 2)])) (let r1:TR:=(qR [(.s x0)])
 .br (okR r1) (let r2:TR:=(qR [(.s x1)])
 .br (okR r2) (let r3:TR:=(qR [(.s x2)])
 .br (okR r3) (let r4:TR:=(qR [(.s x3)])
 .br (okR r4) (let r5:TR:=(qR [(.s x4)])
 .br (okR r5) (let r6:TR:=(qg [(.r [[(.s (gS r1 0))],[(.s (gS r2 1))],[(.s (gS r3 1))],[(.s (gS r4 1))],[(.s (gS r5 1))]]),(.i 0)])
 .br (okR r6) (let r7:TR:=(qg [(.r [[(.s (gS r2 0))],[(.s (gS r1 1))],[(.s (gS r4 1))],[(.s (gS r5 1))]]),(.i (gI r6 1))])
 .br (okR r7) (let r8:TR:=(qg [(.r [[(.s (gS r3 0))],[(.s (gS r3 1))]]),(.i (gI r7 1))])
 .br (okR r8) (let r9:TR:=(qg [(.r [[(.s (gS r4 0))],[(.s (gS r1 1))],[(.s (gS r2 1))],[(.s (gS r3 1))]]),(.i (gI r8 1))])
 .br (okR r9) (let r10:TR:=(qg [(.r [[(.s (gS r5 0))],[(.s (gS r5 1))]]),(.i (gI r9 1))])
 .br (okR r10) (let r11:TR:=(ut [(.s (gS r6 0)),(.s (gS r7 0)),(.s (gS r8 0)),(.i (gI r10 1))])
 .br (okR r11) (let r12:TR:=(zy [(.s (gS r9 0)),(.i (gI r11 1))])
 .br (okR r12) (let r13:TR:=(zy [(.s (gS r10 0)),(.i (gI r12 1))])
 .br (okR r13) (.br (ile 0 (uk .i64 (gI r11 0) (uk .i64 (gI r12 0) (gI r13 0)))) (.br (ieq (gI r11 0) 0) (.leaf (0,[(.i (uk .i64 (gI r12 0) (gI r13 0))),(.i (gI r13 1))])) (.leaf (0,[(.i (gI r11 0)),(.i (gI r13 1))]))) (let r14:TR:=(qg [(.r [[(.s (gS r6 0))],[(.s (gS r6 0))]]),(.i (gI r13 1))])
 .br (okR r14) (let r15:TR:=(qg [(.r [[(.s (gS r7 0))],[(.s (gS r7 0))],[(.s (gS r8 0))]]),(.i (gI r14 1))])
 .br (okR r15) (let r16:TR:=(yx [(.s (gS r14 0)),(.s (gS r15 0)),(.i (gI r15 1))])
 .br (okR r16) (let r17:TR:=(qg [(.r [[(.s (gS r9 0))],[(.s (gS r9 0))],[(.s (gS r10 0))]]),(.i (gI r16 1))])
 .br (okR r17) (let r18:TR:=(zu [(.s (gS r16 0)),(.s (gS r17 0)),(.i (gI r17 1))])
 .br (okR r18) (let r19:TR:=(qg [(.r [[(.s [50])],[(.s (gS r6 0))],[(.s (gS r7 0))]]),(.i (gI r18 1))])
 .br (okR r19) (let r20:TR:=(ut [(.s (gS r18 0)),(.s (gS r19 0)),(.s (gS r8 0)),(.i (gI r19 1))])
 .br (okR r20) (.br (ine (gI r20 1) 0) (.leaf (0,[(.i 0),(.i (gI r20 1))])) (.leaf (0,[(.i (uk .i64 (gI r11 0) (gI r20 0))),(.i 0)]))) .fail) .fail) .fail) .fail) .fail) .fail) .fail)) .fail) .fail) .fail) .fail) .fail) .fail) .fail) .fail) .fail) .fail) .fail) .fail) .fail)) .fail)) .fail)) .fail):=by kernel_rfl
theorem qk7(x0:List UInt8)(x1:List UInt8)(x2:List UInt8):q1l [.s x0,.s x1,.s x2]=(let r0:TR:=(q0P [(.s x0),(.s x1),(.s x2),(.s [48]),(.s [48])])
 .br (okR r0) (.leaf (0,[(.i (gI r0 0)),(.i (gI r0 1))])) .fail):=by kernel_rfl
theorem qjk(x0:List UInt8)(x1:List UInt8)(x2:List UInt8)(x3:Int):q0l [.s x0,.s x1,.s x2,.i x3]=(.br (ine x3 0) (.leaf (0,[(.i 0),(.i x3)])) (let r0:TR:=(q1l [(.s x0),(.s x1),(.s x2)])
 .br (okR r0) (.leaf (0,[(.i (gI r0 0)),(.i (gI r0 1))])) .fail)):=by kernel_rfl
theorem qhV(x0:List UInt8)(x1:List UInt8)(x2:List UInt8)(x3:List UInt8)(x4:List UInt8)(x5:List UInt8)(x6:List UInt8)(x7:List UInt8)(x8:Int):yk [.s x0,.s x1,.s x2,.s x3,.s x4,.s x5,.s x6,.s x7,.i x8]=(let r0:TR:=(jv [(.s x3),(.s x4),(.s x0),(.s x1),(.i x8)])
 .br (okR r0) (let r1:TR:=(v7 [(.s (gS r0 0)),(.s (gS r0 1)),(.s (gS r0 0)),(.s (gS r0 1)),(.i (gI r0 2))])
 .br (okR r1) (let r2:TR:=(v7 [(.s x5),(.s x6),(.s x5),(.s x6),(.i (gI r1 1))])
 .br (okR r2) (let r3:TR:=(z6 [(.s x7),(.s (gS r2 0)),(.i (gI r2 1))])
 .br (okR r3) (let r4:TR:=(zQ [(.s (gS r1 0)),(.s (gS r3 0)),(.i (gI r3 1))])
 .br (okR r4) (let r5:TR:=(zg [(.s (gS r4 0)),(.s x2),(.i (gI r4 1))])
 .br (okR r5) (let r6:TR:=(v7 [(.s (gS r0 0)),(.s (gS r0 1)),(.s x5),(.s x6),(.i (gI r5 1))])
 .br (okR r6) (let r7:TR:=(z6 [(.s [50]),(.s (gS r6 0)),(.i (gI r6 1))])
 .br (okR r7) (let r8:TR:=(q0l [(.s (gS r5 0)),(.s (gS r7 0)),(.s x7),(.i (gI r7 1))])
 .br (okR r8) (.leaf (0,[(.b (ile (gI r8 0) 0)),(.i (gI r8 1))])) .fail) .fail) .fail) .fail) .fail) .fail) .fail) .fail) .fail):=by kernel_rfl
theorem uN(y0:R)(y1:Int)(y2:Int)(y3:R)(y4:R)(y5:R)(y6:Int)(y7:Int)(y8:Int)(y9:Bool)(y10:List UInt8)(y11:List UInt8)(y12:List UInt8)(y13:List UInt8)(y14:List UInt8)(y15:Bool)(y16:R)(y17:Int)(y18:Int)(y19:Int)(y20:List UInt8)(y21:List UInt8)(y22:List UInt8)(y23:List UInt8)(y24:List UInt8)(y25:Bool)(y26:List UInt8)(y27:List UInt8)(y28:List UInt8)(y29:List UInt8)(y30:List UInt8)(y31:Bool)(y32:Bool)(y33:R)(y34:Int)(y35:Int)(y36:Int)(y37:Int)(y38:List UInt8)(y39:List UInt8)(y40:List UInt8)(y41:List UInt8)(y42:List UInt8):wX [.r y0,.i y1,.i y2,.r y3,.r y4,.r y5,.i y6,.i y7,.i y8,.b y9,.s y10,.s y11,.s y12,.s y13,.s y14,.b y15,.r y16,.i y17,.i y18,.i y19,.s y20,.s y21,.s y22,.s y23,.s y24,.b y25,.s y26,.s y27,.s y28,.s y29,.s y30,.b y31,.b y32,.r y33,.i y34,.i y35,.i y36,.i y37,.s y38,.s y39,.s y40,.s y41,.s y42]=(.br (ilt y2 y1) (.br (inb y2 (qf y0)) (let r0:TR:=(yk [(.s (cS y0 y2 0)),(.s (cS y0 y2 1)),(.s (cS y0 y2 2)),(.s y38),(.s y39),(.s y40),(.s y41),(.s y42),(.i y34)])
 .br (okR r0) (.br (not (gB r0 0)) (.leaf (2,[(.i y2),(.r y3),(.r y4),(.r y5),(.i y6),(.i y7),(.i y8),(.b y9),(.s y10),(.s y11),(.s y12),(.s y13),(.s y14),(.b y15),(.r y16),(.i y17),(.i y18),(.i y19),(.s y20),(.s y21),(.s y22),(.s y23),(.s y24),(.b y25),(.s y26),(.s y27),(.s y28),(.s y29),(.s y30),(.b y31),(.b y32),(.r y33),(.i (gI r0 1)),(.i y35),(.i y36),(.i y37),(.s y38),(.s y39),(.s y40),(.s y41),(.s y42)])) (.leaf (0,[(.r y0),(.i y1),(.i (qj .i64 y2 1)),(.r y3),(.r y4),(.r y5),(.i y6),(.i y7),(.i y8),(.b y9),(.s y10),(.s y11),(.s y12),(.s y13),(.s y14),(.b y15),(.r y16),(.i y17),(.i y18),(.i y19),(.s y20),(.s y21),(.s y22),(.s y23),(.s y24),(.b y25),(.s y26),(.s y27),(.s y28),(.s y29),(.s y30),(.b y31),(.b y32),(.r y33),(.i (gI r0 1)),(.i y35),(.i y36),(.i y37),(.s y38),(.s y39),(.s y40),(.s y41),(.s y42)]))) .fail) .fail) (.leaf (1,[(.r y3),(.r y4),(.r y5),(.i y6),(.i y7),(.i y8),(.b y9),(.s y10),(.s y11),(.s y12),(.s y13),(.s y14),(.b y15),(.r y16),(.i y17),(.i y18),(.i y19),(.s y20),(.s y21),(.s y22),(.s y23),(.s y24),(.b y25),(.s y26),(.s y27),(.s y28),(.s y29),(.s y30),(.b y31),(.b y32),(.r y33),(.i y34),(.i y35),(.i y36),(.i y37),(.s y38),(.s y39),(.s y40),(.s y41),(.s y42)]))):=by kernel_rfl
theorem qgp(x0:R)(x1:Int)(x2:Int)(x3:Int)(x4:Int):qQ [.r x0,.i x1,.i x2,.i x3,.i x4]=(let r0:TR:=(vT [(.r x0),(.i x1),(.i x2),(.i x3),(.i x4)])
 .br (okR r0) (.br (gB r0 5) (let r1:TR:=(qh wX [(.r x0),(.i (qf x0)),(.i 0),(.r x0),(.r x0),(.r x0),(.i x1),(.i x2),(.i x3),(.b (gB r0 5)),(.s (gS r0 0)),(.s (gS r0 1)),(.s (gS r0 2)),(.s (gS r0 3)),(.s (gS r0 4)),(.b (gB r0 5)),(.r x0),(.i x1),(.i x2),(.i x3),(.s (gS r0 0)),(.s (gS r0 1)),(.s (gS r0 2)),(.s (gS r0 3)),(.s (gS r0 4)),(.b (gB r0 5)),(.s (gS r0 0)),(.s (gS r0 1)),(.s (gS r0 2)),(.s (gS r0 3)),(.s (gS r0 4)),(.b (gB r0 5)),(.b (gB r0 5)),(.r x0),(.i (gI r0 6)),(.i x1),(.i x2),(.i x3),(.s (gS r0 0)),(.s (gS r0 1)),(.s (gS r0 2)),(.s (gS r0 3)),(.s (gS r0 4))])
 .br (okR r1) (.br (jIs r1 0) (.leaf (0,[(.b (ieq (gI r1 31) 0)),(.i (gI r1 31))])) (.br (not (ile 0 (gI r1 0))) (.leaf (0,[(.b (ieq (gI r1 32) 0)),(.i (gI r1 32))])) (.leaf (0,[(.b false),(.i (gI r1 32))])))) .fail) (.leaf (0,[(.b false),(.i (gI r0 6))]))) .fail):=by kernel_rfl
theorem q42(y0:Int)(y1:Int)(y2:Int)(y3:R)(y4:Int)(y5:Int)(y6:Int)(y7:Bool)(y8:Int):vq [.i y0,.i y1,.i y2,.r y3,.i y4,.i y5,.i y6,.b y7,.i y8]=(.br (ilt y1 y0) (let r0:TR:=(qQ [(.r y3),(.i y1),(.i y1),(.i 0),(.i y2)])
 .br (okR r0) (.br (gB r0 0) (.leaf (2,[(.i (gI r0 1)),(.r y3),(.i y1),(.i y1),(.i 0),(.b true),(.i y8)])) (.leaf (0,[(.i y0),(.i (qj .i64 y1 1)),(.i (gI r0 1)),(.r y3),(.i y4),(.i y5),(.i y6),(.b y7),(.i y8)]))) .fail) (.leaf (1,[(.i y2),(.r y3),(.i y4),(.i y5),(.i y6),(.b y7),(.i y8)]))):=by kernel_rfl
theorem q3t(y0:Int)(y1:Int)(y2:Int)(y3:Int)(y4:Int)(y5:Int)(y6:Int)(y7:R)(y8:Int)(y9:Int)(y10:Int)(y11:Bool)(y12:Int)(y13:R):wN [.i y0,.i y1,.i y2,.i y3,.i y4,.i y5,.i y6,.r y7,.i y8,.i y9,.i y10,.b y11,.i y12,.r y13]=(.br (ilt y5 y4) (.br (inb y5 (qf y13)) (let r0:TR:=(qQ [(.r y7),(.i y0),(.i y1),(.i (cI y13 y5 0)),(.i y6)])
 .br (okR r0) (.br (gB r0 0) (.leaf (2,[(.i (gI r0 1)),(.r y7),(.i y0),(.i y1),(.i (cI y13 y5 0)),(.b true),(.i y12)])) (.leaf (0,[(.i y0),(.i y1),(.i y2),(.i y3),(.i y4),(.i (qj .i64 y5 1)),(.i (gI r0 1)),(.r y7),(.i y8),(.i y9),(.i y10),(.b y11),(.i y12),(.r y13)]))) .fail) .fail) (.leaf (1,[(.i y0),(.i y1),(.i y2),(.i y3),(.i y6),(.r y7),(.i y8),(.i y9),(.i y10),(.b y11),(.i y12)]))):=by kernel_rfl
theorem q3u(y0:Int)(y1:Int)(y2:Int)(y3:Int)(y4:Int)(y5:R)(y6:Int)(y7:Int)(y8:Int)(y9:Bool)(y10:Int):wS [.i y0,.i y1,.i y2,.i y3,.i y4,.r y5,.i y6,.i y7,.i y8,.b y9,.i y10]=(.br (ilt y1 y10) (let r0:TR:=(qh wN [(.i y0),(.i y1),(.i y2),(.i y3),(.i (qf [[(.i 0)],[(.i 1)],[(.i (-1))]])),(.i 0),(.i y4),(.r y5),(.i y6),(.i y7),(.i y8),(.b y9),(.i y10),(.r [[(.i 0)],[(.i 1)],[(.i (-1))]])])
 .br (okR r0) (.br (jIs r0 0) (.leaf (0,[(.i (gI r0 0)),(.i (qj .i64 (gI r0 1) 1)),(.i (gI r0 2)),(.i (gI r0 3)),(.i (gI r0 4)),(.r (gR r0 5)),(.i (gI r0 6)),(.i (gI r0 7)),(.i (gI r0 8)),(.b (gB r0 9)),(.i (gI r0 10))])) (.leaf (2,[(.i (gI r0 0)),(.r (gR r0 1)),(.i (gI r0 2)),(.i (gI r0 3)),(.i (gI r0 4)),(.b (gB r0 5)),(.i (gI r0 6))]))) .fail) (.leaf (1,[(.i y2),(.i y3),(.i y4),(.r y5),(.i y6),(.i y7),(.i y8),(.b y9),(.i y10)]))):=by kernel_rfl
theorem q49(y0:Int)(y1:Int)(y2:Int)(y3:R)(y4:Int)(y5:Int)(y6:Int)(y7:Bool)(y8:Int):vJ [.i y0,.i y1,.i y2,.r y3,.i y4,.i y5,.i y6,.b y7,.i y8]=(.br (ilt y1 y0) (let r0:TR:=(qh wS [(.i y1),(.i (qj .i64 y1 1)),(.i y0),(.i y1),(.i y2),(.r y3),(.i y4),(.i y5),(.i y6),(.b y7),(.i y8)])
 .br (okR r0) (.br (jIs r0 0) (.leaf (0,[(.i (gI r0 0)),(.i (qj .i64 (gI r0 1) 1)),(.i (gI r0 2)),(.r (gR r0 3)),(.i (gI r0 4)),(.i (gI r0 5)),(.i (gI r0 6)),(.b (gB r0 7)),(.i (gI r0 8))])) (.leaf (2,[(.i (gI r0 0)),(.r (gR r0 1)),(.i (gI r0 2)),(.i (gI r0 3)),(.i (gI r0 4)),(.b (gB r0 5)),(.i (gI r0 6))]))) .fail) (.leaf (1,[(.i y2),(.r y3),(.i y4),(.i y5),(.i y6),(.b y7),(.i y8)]))):=by kernel_rfl
theorem qhv(x0:R)(x1:Int):qE [.r x0,.i x1]=(let r0:TR:=(qh vq [(.i (qf x0)),(.i 0),(.i x1),(.r x0),(.i 0),(.i 0),(.i 0),(.b false),(.i (qf x0))])
 .br (okR r0) (.br (jIs r0 0) (let r1:TR:=(qh vJ [(.i (gI r0 6)),(.i 0),(.i (gI r0 0)),(.r (gR r0 1)),(.i (gI r0 2)),(.i (gI r0 3)),(.i (gI r0 4)),(.b (gB r0 5)),(.i (gI r0 6))])
 .br (okR r1) (.br (jIs r1 0) (.leaf (0,[(.i 0),(.i 0),(.i 0),(.b false),(.i (gI r1 0))])) (.leaf (0,[(.i (gI r1 2)),(.i (gI r1 3)),(.i (gI r1 4)),(.b (gB r1 5)),(.i (gI r1 0))]))) .fail) (.leaf (0,[(.i (gI r0 2)),(.i (gI r0 3)),(.i (gI r0 4)),(.b (gB r0 5)),(.i (gI r0 0))]))) .fail):=by kernel_rfl
theorem qnh(x0:R):q3T [.r x0]=(let r0:TR:=(zI [(.r x0)])
 .br (okR r0) (.br (ine (gI r0 0) 0) (.leaf (0,[(.b false),(.i 0),(.i 0),(.i 0),(.i (gI r0 0))])) (let r1:TR:=(qE [(.r x0),(.i 0)])
 .br (okR r1) (.br (ine (gI r1 4) 0) (.leaf (0,[(.b false),(.i 0),(.i 0),(.i 0),(.i (gI r1 4))])) (.leaf (0,[(.b (gB r1 3)),(.i (gI r1 0)),(.i (gI r1 1)),(.i (gI r1 2)),(.i 0)]))) .fail)) .fail):=by kernel_rfl
theorem qeR(y0:List UInt8)(y1:List UInt8)(y2:Int)(y3:Int)(y4:R):q1J [.s y0,.s y1,.i y2,.i y3,.r y4]=(.br (ilt y3 y2) (.br (inb y3 (qf y4)) (let r0:TR:=(qP [(.s (cS y4 y3 0))])
 .br (okR r0) (.br (ine (gI r0 0) 0) (.leaf (2,[(.s []),(.i (gI r0 0))])) (.leaf (0,[(.s y0),(.s y1),(.i y2),(.i (qj .i64 y3 1)),(.r y4)]))) .fail) .fail) (.leaf (1,[(.s y0),(.s y1)]))):=by kernel_rfl
theorem qr6(x0:List UInt8)(x1:List UInt8):q7q [.s x0,.s x1]=(let r0:TR:=(qh q1J [(.s x0),(.s x1),(.i (qf [[(.s x0)],[(.s x1)]])),(.i 0),(.r [[(.s x0)],[(.s x1)]])])
 .br (okR r0) (.br (jIs r0 0) (.br (seq (gS r0 1) [48]) (.leaf (0,[(.s []),(.i 10)])) (let r1:TR:=(qD [(.s (gS r0 0)),(.s (gS r0 1)),(.i 0)])
 .br (okR r1) (.br (ine (gI r1 1) 0) (.leaf (0,[(.s []),(.i (gI r1 1))])) (.leaf (0,[(.s (gS r1 0)),(.i 0)]))) .fail)) (.leaf (0,[(.s (gS r0 0)),(.i (gI r0 1))]))) .fail):=by kernel_rfl
theorem qvt(x0:Int)(x1:Int):q8Y [.i x0,.i x1]=(let r0:TR:=(zx [(.i x0)])
 .br (okR r0) (let r1:TR:=(zx [(.i x1)])
 .br (okR r1) (let r2:TR:=(q7q [(.s (gS r0 0)),(.s (gS r1 0))])
 .br (okR r2) (.leaf (0,[(.s (gS r2 0)),(.i (gI r2 1))])) .fail) .fail) .fail):=by kernel_rfl
theorem qoL(x0:Int):q15 [.i x0]=(.br (okR (zx [(.i x0)])) (.leaf (0,[(.s (gS (zx [(.i x0)]) 0))])) .fail):=by kernel_rfl
theorem q9S(y0:R)(y1:Int)(y2:Int)(y3:R)(y4:R)(y5:R):yf [.r y0,.i y1,.i y2,.r y3,.r y4,.r y5]=(.br (ilt y2 y1) (.br (inb y2 (qf y0)) (.br (inb y2 (qf y3)) (.br (inb y2 (qf y4)) (let r0:TR:=(q8Y [(.i (cI y0 y2 0)),(.i 2)])
 .br (okR r0) (let r1:TR:=(q14 [(.s (gS r0 0)),(.s (gS r0 0))])
 .br (okR r1) (let r2:TR:=(q15 [(.i (qw .i64 (cI y4 y2 0) (cI y3 y2 0)))])
 .br (okR r2) (let r3:TR:=(q15 [(.i (qw .i64 (cI y4 y2 1) (cI y3 y2 1)))])
 .br (okR r3) (.br (ile ((qf y5)+(qf [[(.s (gS r2 0)),(.s (gS r3 0)),(.s (gS r1 0))]])) 2932031007402) (.leaf (0,[(.r y0),(.i y1),(.i (qj .i64 y2 1)),(.r y3),(.r y4),(.r (q3z y5 [[(.s (gS r2 0)),(.s (gS r3 0)),(.s (gS r1 0))]]))])) .fail) .fail) .fail) .fail) .fail) .fail) .fail) .fail) (.leaf (1,[(.r y5)]))):=by kernel_rfl
theorem qkJ(x0:R)(x1:R)(x2:R)(x3:R):yu [.r x0,.r x1,.r x2,.r x3]=(let r0:TR:=(zt [(.r x0),(.r x1),(.r x2),(.r x3)])
 .br (okR r0) (let r1:TR:=(qh yf [(.r (gR r0 0)),(.i (qf (gR r0 0))),(.i 0),(.r x2),(.r x3),(.r [])])
 .br (okR r1) (.leaf (0,[(.r (gR r1 0))])) .fail) .fail):=by kernel_rfl
theorem qgA(x0:R)(x1:R)(x2:R)(x3:R):qv [.r x0,.r x1,.r x2,.r x3]=(let r0:TR:=(wz [(.r x0),(.r x1),(.r x2),(.r x3)])
 .br (okR r0) (.br (ine (gI r0 0) 0) (.leaf (0,[(.b false),(.i 0),(.i 0),(.i 0),(.i (gI r0 0))])) (let r1:TR:=(zt [(.r x0),(.r x1),(.r x2),(.r x3)])
 .br (okR r1) (let r2:TR:=(qk [(.r (gR r1 0))])
 .br (okR r2) (.br (ilt 0 (qf (gR r2 0))) (.leaf (0,[(.b false),(.i 0),(.i 0),(.i 0),(.i 0)])) (let r3:TR:=(yu [(.r x0),(.r x1),(.r x2),(.r x3)])
 .br (okR r3) (let r4:TR:=(q3T [(.r (gR r3 0))])
 .br (okR r4) (.br (ine (gI r4 4) 0) (.leaf (0,[(.b false),(.i 0),(.i 0),(.i 0),(.i (gI r4 4))])) (.br (not (gB r4 0)) (.leaf (0,[(.b false),(.i 0),(.i 0),(.i 0),(.i (gI r4 4))])) (.leaf (0,[(.b true),(.i (gI r4 1)),(.i (gI r4 2)),(.i (gI r4 3)),(.i 0)])))) .fail) .fail)) .fail) .fail)) .fail):=by kernel_rfl
theorem q0V(y0:Int)(y1:Int)(y2:Int)(y3:Int)(y4:Int)(y5:Int)(y6:Int)(y7:R)(y8:Int)(y9:Int)(y10:Int)(y11:R)(y12:Int)(y13:R)(y14:R):ze [.i y0,.i y1,.i y2,.i y3,.i y4,.i y5,.i y6,.r y7,.i y8,.i y9,.i y10,.r y11,.i y12,.r y13,.r y14]=(.br (ilt y1 y0) (.br (inb y1 (qf y13)) (.br (inb (cI y13 y1 0) (qf y11)) (.br (ile ((qf y14)+(qf [[(.s (cS y11 (cI y13 y1 0) 0)),(.s (cS y11 (cI y13 y1 0) 1)),(.s (cS y11 (cI y13 y1 0) 2))]])) 2932031007402) (.leaf (0,[(.i y0),(.i (qj .i64 y1 1)),(.i y2),(.i y3),(.i y4),(.i y5),(.i y6),(.r y7),(.i y8),(.i y9),(.i y10),(.r y11),(.i y12),(.r y13),(.r (q3z y14 [[(.s (cS y11 (cI y13 y1 0) 0)),(.s (cS y11 (cI y13 y1 0) 1)),(.s (cS y11 (cI y13 y1 0) 2))]]))])) .fail) .fail) .fail) (.leaf (1,[(.i y2),(.i y3),(.i y4),(.i y5),(.i y6),(.r y7),(.i y8),(.i y9),(.i y10),(.r y11),(.i y12),(.r y13),(.r y14)]))):=by kernel_rfl
theorem q46(y0:Int)(y1:Int)(y2:Int)(y3:Int)(y4:R)(y5:Int):vt [.i y0,.i y1,.i y2,.i y3,.r y4,.i y5]=(.br (ilt y1 (qf y4)) (let r0:TR:=(qh ze [(.i (qf [[(.i y0)],[(.i y1)]])),(.i 0),(.i y0),(.i y1),(.i y2),(.i y3),(.i y1),(.r y4),(.i (qf y4)),(.i y0),(.i y1),(.r y4),(.i y5),(.r [[(.i y0)],[(.i y1)]]),(.r [])])
 .br (okR r0) (let r1:TR:=(qE [(.r (gR r0 12)),(.i (gI r0 10))])
 .br (okR r1) (.br (not (gB r1 3)) (.br (ieq (gI r1 4) 0) (.leaf (2,[(.i 0),(.r [[(.i (gI r0 0))],[(.i (gI r0 1))]])])) (.leaf (0,[(.i (gI r0 0)),(.i (qj .i64 (gI r0 1) 1)),(.i (gI r0 2)),(.i (gI r0 3)),(.r (gR r0 9)),(.i (gI r1 4))]))) (.leaf (0,[(.i (gI r0 0)),(.i (qj .i64 (gI r0 1) 1)),(.i (gI r0 2)),(.i (gI r0 3)),(.r (gR r0 9)),(.i (gI r1 4))]))) .fail) .fail) (.leaf (1,[(.i y2),(.i y3),(.r y4),(.i y5)]))):=by kernel_rfl
theorem q4Z(y0:Int)(y1:Int)(y2:R)(y3:Int):vQ [.i y0,.i y1,.r y2,.i y3]=(.br (ilt y1 y0) (let r0:TR:=(qh vt [(.i y1),(.i (qj .i64 y1 1)),(.i y0),(.i y1),(.r y2),(.i y3)])
 .br (okR r0) (.br (jIs r0 0) (.leaf (0,[(.i (gI r0 0)),(.i (qj .i64 (gI r0 1) 1)),(.r (gR r0 2)),(.i (gI r0 3))])) (.leaf (2,[(.i (gI r0 0)),(.r (gR r0 1))]))) .fail) (.leaf (1,[(.r y2),(.i y3)]))):=by kernel_rfl
theorem q0X(y0:Int)(y1:Int)(y2:Int)(y3:Int)(y4:Int)(y5:Int)(y6:Int)(y7:Int)(y8:R)(y9:Int)(y10:Int)(y11:Int)(y12:Int)(y13:R)(y14:Int)(y15:R)(y16:R):zd [.i y0,.i y1,.i y2,.i y3,.i y4,.i y5,.i y6,.i y7,.r y8,.i y9,.i y10,.i y11,.i y12,.r y13,.i y14,.r y15,.r y16]=(.br (ilt y1 y0) (.br (inb y1 (qf y15)) (.br (inb (cI y15 y1 0) (qf y13)) (.br (ile ((qf y16)+(qf [[(.s (cS y13 (cI y15 y1 0) 0)),(.s (cS y13 (cI y15 y1 0) 1)),(.s (cS y13 (cI y15 y1 0) 2))]])) 2932031007402) (.leaf (0,[(.i y0),(.i (qj .i64 y1 1)),(.i y2),(.i y3),(.i y4),(.i y5),(.i y6),(.i y7),(.r y8),(.i y9),(.i y10),(.i y11),(.i y12),(.r y13),(.i y14),(.r y15),(.r (q3z y16 [[(.s (cS y13 (cI y15 y1 0) 0)),(.s (cS y13 (cI y15 y1 0) 1)),(.s (cS y13 (cI y15 y1 0) 2))]]))])) .fail) .fail) .fail) (.leaf (1,[(.i y2),(.i y3),(.i y4),(.i y5),(.i y6),(.i y7),(.r y8),(.i y9),(.i y10),(.i y11),(.i y12),(.r y13),(.i y14),(.r y15),(.r y16)]))):=by kernel_rfl
theorem q4b(y0:Int)(y1:Int)(y2:Int)(y3:Int)(y4:Int)(y5:R)(y6:Int):vr [.i y0,.i y1,.i y2,.i y3,.i y4,.r y5,.i y6]=(.br (ilt y2 (qf y5)) (let r0:TR:=(qh zd [(.i (qf [[(.i y0)],[(.i y1)],[(.i y2)]])),(.i 0),(.i y0),(.i y1),(.i y2),(.i y3),(.i y4),(.i y2),(.r y5),(.i (qf y5)),(.i y0),(.i y1),(.i y2),(.r y5),(.i y6),(.r [[(.i y0)],[(.i y1)],[(.i y2)]]),(.r [])])
 .br (okR r0) (let r1:TR:=(qE [(.r (gR r0 14)),(.i (gI r0 12))])
 .br (okR r1) (.br (not (gB r1 3)) (.br (ieq (gI r1 4) 0) (.leaf (2,[(.i 0),(.r [[(.i (gI r0 0))],[(.i (gI r0 1))],[(.i (gI r0 2))]])])) (.leaf (0,[(.i (gI r0 0)),(.i (gI r0 1)),(.i (qj .i64 (gI r0 2) 1)),(.i (gI r0 3)),(.i (gI r0 4)),(.r (gR r0 11)),(.i (gI r1 4))]))) (.leaf (0,[(.i (gI r0 0)),(.i (gI r0 1)),(.i (qj .i64 (gI r0 2) 1)),(.i (gI r0 3)),(.i (gI r0 4)),(.r (gR r0 11)),(.i (gI r1 4))]))) .fail) .fail) (.leaf (1,[(.i y0),(.i y1),(.i y3),(.i y4),(.r y5),(.i y6)]))):=by kernel_rfl
theorem q3Y(y0:Int)(y1:Int)(y2:Int)(y3:Int)(y4:R)(y5:Int):vw [.i y0,.i y1,.i y2,.i y3,.r y4,.i y5]=(.br (ilt y1 (qf y4)) (let r0:TR:=(qh vr [(.i y0),(.i y1),(.i (qj .i64 y1 1)),(.i y2),(.i y3),(.r y4),(.i y5)])
 .br (okR r0) (.br (jIs r0 0) (.leaf (0,[(.i (gI r0 0)),(.i (qj .i64 (gI r0 1) 1)),(.i (gI r0 2)),(.i (gI r0 3)),(.r (gR r0 4)),(.i (gI r0 5))])) (.leaf (2,[(.i (gI r0 0)),(.r (gR r0 1))]))) .fail) (.leaf (1,[(.i y2),(.i y3),(.r y4),(.i y5)]))):=by kernel_rfl
theorem q4h(y0:Int)(y1:Int)(y2:R)(y3:Int):vk [.i y0,.i y1,.r y2,.i y3]=(.br (ilt y1 y0) (let r0:TR:=(qh vw [(.i y1),(.i (qj .i64 y1 1)),(.i y0),(.i y1),(.r y2),(.i y3)])
 .br (okR r0) (.br (jIs r0 0) (.leaf (0,[(.i (gI r0 0)),(.i (qj .i64 (gI r0 1) 1)),(.r (gR r0 2)),(.i (gI r0 3))])) (.leaf (2,[(.i (gI r0 0)),(.r (gR r0 1))]))) .fail) (.leaf (1,[(.i y3)]))):=by kernel_rfl
theorem qep(x0:R):jZ [.r x0]=(let r0:TR:=(zI [(.r x0)])
 .br (okR r0) (.br (ine (gI r0 0) 0) (.leaf (0,[(.r []),(.i (gI r0 0))])) (let r1:TR:=(qh vQ [(.i (qf x0)),(.i 0),(.r x0),(.i 0)])
 .br (okR r1) (.br (jIs r1 0) (let r2:TR:=(qh vk [(.i (qf (gR r1 0))),(.i 0),(.r (gR r1 0)),(.i (gI r1 1))])
 .br (okR r2) (.br (jIs r2 0) (.leaf (0,[(.r []),(.i (gI r2 0))])) (.leaf (0,[(.r (gR r2 1)),(.i (gI r2 0))]))) .fail) (.leaf (0,[(.r (gR r1 1)),(.i (gI r1 0))]))) .fail)) .fail):=by kernel_rfl
theorem qk5(x0:R)(x1:R)(x2:R)(x3:R):z7 [.r x0,.r x1,.r x2,.r x3]=(let r0:TR:=(wz [(.r x0),(.r x1),(.r x2),(.r x3)])
 .br (okR r0) (.br (ine (gI r0 0) 0) (.leaf (0,[(.r []),(.i (gI r0 0))])) (let r1:TR:=(zt [(.r x0),(.r x1),(.r x2),(.r x3)])
 .br (okR r1) (let r2:TR:=(qk [(.r (gR r1 0))])
 .br (okR r2) (.br (ilt 0 (qf (gR r2 0))) (.br (q6O 1 (qf (gR r2 0))) (.br (q6O 0 1) (.leaf (0,[(.r (qvz (gR r2 0) 0 1)),(.i 0)])) .fail) .fail) (let r3:TR:=(yu [(.r x0),(.r x1),(.r x2),(.r x3)])
 .br (okR r3) (let r4:TR:=(jZ [(.r (gR r3 0))])
 .br (okR r4) (.leaf (0,[(.r (gR r4 0)),(.i (gI r4 1))])) .fail) .fail)) .fail) .fail)) .fail):=by kernel_rfl
theorem qhK(x0:Int):wI [.i x0]=(.br (ile (-100000) x0) (.leaf (0,[(.b (ile x0 100000))])) (.leaf (0,[(.b false)]))):=by kernel_rfl
theorem qii(x0:Int)(x1:Int):uo [.i x0,.i x1]=(.br (okR (wI [(.i x0)])) (.br (not (gB (wI [(.i x0)]) 0)) (.leaf (0,[(.i 2)])) (.br (okR (wI [(.i x1)])) (.br (not (gB (wI [(.i x1)]) 0)) (.leaf (0,[(.i 2)])) (.br (ilt x1 x0) (.leaf (0,[(.i 9)])) (.leaf (0,[(.i 0)])))) .fail)) .fail):=by kernel_rfl
theorem q3P(y0:R)(y1:Int)(y2:Int):vo [.r y0,.i y1,.i y2]=(.br (ilt y2 y1) (.br (inb y2 (qf y0)) (let r0:TR:=(uo [(.i (cI y0 y2 0)),(.i (cI y0 y2 1))])
 .br (okR r0) (.br (ine (gI r0 0) 0) (.leaf (2,[(.i (gI r0 0))])) (.br (ilt (cI y0 y2 0) 1) (.leaf (2,[(.i 2)])) (.leaf (0,[(.r y0),(.i y1),(.i (qj .i64 y2 1))])))) .fail) .fail) (.leaf (1,[]))):=by kernel_rfl
theorem qcM(x0:R):wL [.r x0]=(.br (ieq (qf x0) 0) (.leaf (0,[(.i 13)])) (.br (ilt 16 (qf x0)) (.leaf (0,[(.i 5)])) (let r0:TR:=(qh vo [(.r x0),(.i (qf x0)),(.i 0)])
 .br (okR r0) (.br (jIs r0 0) (.leaf (0,[(.i 0)])) (.leaf (0,[(.i (gI r0 0))]))) .fail))):=by kernel_rfl
theorem q7k(y0:R)(y1:Int)(y2:Int)(y3:Int)(y4:Int)(y5:Int)(y6:Int):j0 [.r y0,.i y1,.i y2,.i y3,.i y4,.i y5,.i y6]=(.br (ilt y2 y1) (.br (inb y2 (qf y0)) (.leaf (0,[(.r y0),(.i y1),(.i (qj .i64 y2 1)),(.i y3),(.i y4),(.i (qj .i64 y5 (cI y0 y2 0))),(.i (qj .i64 y6 (cI y0 y2 1)))])) .fail) (.leaf (1,[(.i y3),(.i y4),(.i y5),(.i y6)]))):=by kernel_rfl
theorem qhp(x0:R):kl [.r x0]=(let r0:TR:=(wL [(.r x0)])
 .br (okR r0) (.br (ine (gI r0 0) 0) (.leaf (0,[(.i 0),(.i 0),(.i (gI r0 0))])) (let r1:TR:=(qh j0 [(.r x0),(.i (qf x0)),(.i 0),(.i 0),(.i 0),(.i 0),(.i 0)])
 .br (okR r1) (.leaf (0,[(.i (gI r1 2)),(.i (gI r1 3)),(.i 0)])) .fail)) .fail):=by kernel_rfl
theorem qh2(y0:Int)(y1:Int)(y2:R)(y3:R)(y4:R):q2Z [.i y0,.i y1,.r y2,.r y3,.r y4]=(.br (ilt y1 y0) (.br (inb y1 (qf y2)) (.br (ile ((qf y3)+(qf [[(.i (cI y2 y1 0)),(.i 0),(.i 100),(.i 104),(.i 4),(.i 1),(.b false)]])) 2513169434916) (.br (ile ((qf y4)+(qf [[(.i (cI y2 y1 0)),(.i 0),(.i 90),(.i 92),(.i 4),(.i 1),(.b true)]])) 2513169434916) (.leaf (0,[(.i y0),(.i (qj .i64 y1 1)),(.r y2),(.r (q3z y3 [[(.i (cI y2 y1 0)),(.i 0),(.i 100),(.i 104),(.i 4),(.i 1),(.b false)]])),(.r (q3z y4 [[(.i (cI y2 y1 0)),(.i 0),(.i 90),(.i 92),(.i 4),(.i 1),(.b true)]]))])) .fail) .fail) .fail) (.leaf (1,[(.r y3),(.r y4)]))):=by kernel_rfl
theorem qtj  : q9a []=(let r0:TR:=(qh q2Z [(.i (qf [[(.i 0)],[(.i 1000)]])),(.i 0),(.r [[(.i 0)],[(.i 1000)]]),(.r []),(.r [])])
 .br (okR r0) (.leaf (0,[(.r (gR r0 0)),(.r (gR r0 1))])) .fail):=by kernel_rfl
theorem qkf(x0:Int):uV [.i x0]=(.leaf (0,[(.r [[(.i 2),(.i 0),(.i 100)],[(.i 998),(.i 0),(.i 100)]]),(.r [[(.i (qw .i64 0 x0)),(.i 0),(.i 92)],[(.i (qj .i64 1000 x0)),(.i 0),(.i 92)]])])):=by kernel_rfl
theorem qpi  : zp []=(let r0:TR:=(q9a [])
 .br (okR r0) (let r1:TR:=(vX [(.r (gR r0 0)),(.r (gR r0 1))])
 .br (okR r1) (.br (okR r0) (let r2:TR:=(q2n [(.r (gR r0 0)),(.r (gR r0 1))])
 .br (okR r2) (.br (okR r0) (let r3:TR:=(uV [(.i 2)])
 .br (okR r3) (let r4:TR:=(wc [(.r (gR r0 0)),(.r (gR r0 1)),(.r (gR r3 0)),(.r (gR r3 1))])
 .br (okR r4) (.br (okR r0) (let r5:TR:=(uV [(.i 3)])
 .br (okR r5) (let r6:TR:=(wc [(.r (gR r0 0)),(.r (gR r0 1)),(.r (gR r5 0)),(.r (gR r5 1))])
 .br (okR r6) (.br (okR r0) (.br (okR r5) (let r7:TR:=(z7 [(.r (gR r0 0)),(.r (gR r0 1)),(.r (gR r5 0)),(.r (gR r5 1))])
 .br (okR r7) (.br (okR r0) (.br (okR r3) (let r8:TR:=(qv [(.r (gR r0 0)),(.r (gR r0 1)),(.r (gR r3 0)),(.r (gR r3 1))])
 .br (okR r8) (.br (okR r0) (.br (okR r5) (let r9:TR:=(qv [(.r (gR r0 0)),(.r (gR r0 1)),(.r (gR r5 0)),(.r (gR r5 1))])
 .br (okR r9) (let r10:TR:=(kl [(.r [[(.i 10),(.i 12)],[(.i 20),(.i 21)]])])
 .br (okR r10) (.br (ine (qj .i64 (qj .i64 (qj .i64 (qj .i64 (qj .i64 (qj .i64 (qj .i64 (gI r1 1) (gI r2 1)) (gI r4 1)) (gI r6 1)) (gI r7 1)) (gI r8 4)) (gI r9 4)) (gI r10 2)) 0) (.leaf (0,[(.b false)])) (.br (not (gB r2 0)) (.leaf (0,[(.b false)])) (.br (not (gB r8 0)) (.leaf (0,[(.b false)])) (.br (gB r9 0) (.leaf (0,[(.b false)])) (.br (not (qxU (ieq (gI r10 0) 30) (qxU (ieq (gI r10 1) 33) true))) (.leaf (0,[(.b false)])) (let r11:TR:=(qK [(.r (gR r1 0)),(.r [[(.i 0)],[(.i 0)]])])
 .br (okR r11) (.br (gB r11 0) (.br (ieq (qf (gR r4 0)) 0) (let r12:TR:=(qK [(.r (gR r6 0)),(.r [[(.i 0)],[(.i 1)]])])
 .br (okR r12) (.br (gB r12 0) (let r13:TR:=(qK [(.r (gR r7 0)),(.r [[(.i 0)],[(.i 1)]])])
 .br (okR r13) (.leaf (0,[(.b (gB r13 0))])) .fail) (.leaf (0,[(.b false)]))) .fail) (.leaf (0,[(.b false)]))) (.leaf (0,[(.b false)]))) .fail)))))) .fail) .fail) .fail) .fail) .fail) .fail) .fail) .fail) .fail) .fail) .fail) .fail) .fail) .fail) .fail) .fail) .fail) .fail) .fail) .fail):=by kernel_rfl
theorem quR(x0:Int):q4T [.i x0]=(.br (ile (-100000) x0) (.leaf (0,[(.b (ile x0 100000))])) (.leaf (0,[(.b false)]))):=by kernel_rfl
theorem qoy(x0:Int)(x1:Int):va [.i x0,.i x1]=(.br (okR (q4T [(.i x0)])) (.br (gB (q4T [(.i x0)]) 0) (.br (okR (q4T [(.i x1)])) (.leaf (0,[(.b (gB (q4T [(.i x1)]) 0))])) .fail) (.leaf (0,[(.b false)]))) .fail):=by kernel_rfl
theorem qr4(x0:Int):jY [.i x0]=(.br (ile 1 x0) (.leaf (0,[(.b (ile x0 100000))])) (.leaf (0,[(.b false)]))):=by kernel_rfl
theorem qoC(x0:Int)(x1:Int)(x2:Int)(x3:Int)(x4:Int)(x5:Int)(x6:Bool):q2K [.i x0,.i x1,.i x2,.i x3,.i x4,.i x5,.b x6]=(.br (okR (va [(.i x0),(.i x1)])) (.br (not (gB (va [(.i x0),(.i x1)]) 0)) (.leaf (0,[(.i 2)])) (.br (okR (jY [(.i x2)])) (.br (not (gB (jY [(.i x2)]) 0)) (.leaf (0,[(.i 2)])) (.br (okR (jY [(.i x3)])) (.br (not (gB (jY [(.i x3)]) 0)) (.leaf (0,[(.i 2)])) (.br (ilt x3 x2) (.leaf (0,[(.i 9)])) (.br (ilt x4 0) (.leaf (0,[(.i 2)])) (.br (ilt 100000 x4) (.leaf (0,[(.i 2)])) (.br (not x6) (.br (ile x2 x4) (.leaf (0,[(.i 2)])) (.br (ilt x5 0) (.leaf (0,[(.i 1)])) (.br (ilt 2 x5) (.leaf (0,[(.i 1)])) (.leaf (0,[(.i 0)]))))) (.br (ilt x5 0) (.leaf (0,[(.i 1)])) (.br (ilt 2 x5) (.leaf (0,[(.i 1)])) (.leaf (0,[(.i 0)]))))))))) .fail)) .fail)) .fail):=by kernel_rfl
theorem qrY(x0:Int)(x1:Int)(x2:Int)(x3:Int)(x4:Int)(x5:Int)(x6:Bool)(x7:Int)(x8:Int)(x9:Int)(x10:Int)(x11:Int)(x12:Int)(x13:Bool):q52 [.i x0,.i x1,.i x2,.i x3,.i x4,.i x5,.b x6,.i x7,.i x8,.i x9,.i x10,.i x11,.i x12,.b x13]=(let r0:TR:=(q2K [(.i x0),(.i x1),(.i x2),(.i x3),(.i x4),(.i x5),(.b x6)])
 .br (okR r0) (.br (ine (gI r0 0) 0) (.leaf (0,[(.i (gI r0 0))])) (let r1:TR:=(q2K [(.i x7),(.i x8),(.i x9),(.i x10),(.i x11),(.i x12),(.b x13)])
 .br (okR r1) (.br (ine (gI r1 0) 0) (.leaf (0,[(.i (gI r1 0))])) (.br (ine x5 1) (.leaf (0,[(.i 14)])) (.br (ine x12 1) (.leaf (0,[(.i 14)])) (.br (not (qxU (ieq x0 x7) (qxU (ieq x1 x8) true))) (.leaf (0,[(.i 16)])) (.br (beq x6 x13) (.leaf (0,[(.i 16)])) (.leaf (0,[(.i 0)]))))))) .fail)) .fail):=by kernel_rfl
theorem qcJ(y0:Int)(y1:R)(y2:R):q1t [.i y0,.r y1,.r y2]=(.br (ilt y0 (qf y1)) (.br (inb y0 (qf y1)) (.br (inb y0 (qf y2)) (let r0:TR:=(q52 [(.i (cI y1 y0 0)),(.i (cI y1 y0 1)),(.i (cI y1 y0 2)),(.i (cI y1 y0 3)),(.i (cI y1 y0 4)),(.i (cI y1 y0 5)),(.b (cB y1 y0 6)),(.i (cI y2 y0 0)),(.i (cI y2 y0 1)),(.i (cI y2 y0 2)),(.i (cI y2 y0 3)),(.i (cI y2 y0 4)),(.i (cI y2 y0 5)),(.b (cB y2 y0 6))])
 .br (okR r0) (.br (ine (gI r0 0) 0) (.leaf (2,[(.i (gI r0 0))])) (.leaf (0,[(.i (qj .i64 y0 1)),(.r y1),(.r y2)]))) .fail) .fail) .fail) (.leaf (1,[]))):=by kernel_rfl
theorem qp8(x0:R)(x1:R):q2L [.r x0,.r x1]=(.br (ieq (qf x0) 0) (.leaf (0,[(.i 13)])) (.br (ilt 16 (qf x0)) (.leaf (0,[(.i 5)])) (.br (ine (qf x1) (qf x0)) (.leaf (0,[(.i 8)])) (let r0:TR:=(qh q1t [(.i 0),(.r x0),(.r x1)])
 .br (okR r0) (.br (jIs r0 0) (.leaf (0,[(.i 0)])) (.leaf (0,[(.i (gI r0 0))]))) .fail)))):=by kernel_rfl
theorem qs4(x0:Int)(x1:Int)(x2:Int):q2o [.i x0,.i x1,.i x2]=(.br (okR (va [(.i x0),(.i x1)])) (.br (not (gB (va [(.i x0),(.i x1)]) 0)) (.leaf (0,[(.i 2)])) (.br (okR (jY [(.i x2)])) (.br (not (gB (jY [(.i x2)]) 0)) (.leaf (0,[(.i 2)])) (.leaf (0,[(.i 0)]))) .fail)) .fail):=by kernel_rfl
theorem qol(x0:Int)(x1:Int)(x2:Int)(x3:Int)(x4:Int)(x5:Int)(x6:Bool)(x7:Int):kR [.i x0,.i x1,.i x2,.i x3,.i x4,.i x5,.b x6,.i x7]=(.br (ile x2 x7) (.leaf (0,[(.b (ile x7 x3))])) (.leaf (0,[(.b false)]))):=by kernel_rfl
theorem qcb(y0:Int)(y1:R)(y2:R)(y3:R)(y4:R):q1A [.i y0,.r y1,.r y2,.r y3,.r y4]=(.br (ilt y0 (qf y3)) (.br (inb y0 (qf y3)) (let r0:TR:=(q2o [(.i (cI y3 y0 0)),(.i (cI y3 y0 1)),(.i (cI y3 y0 2))])
 .br (okR r0) (.br (ine (gI r0 0) 0) (.leaf (2,[(.i (gI r0 0))])) (.br (inb y0 (qf y4)) (let r1:TR:=(q2o [(.i (cI y4 y0 0)),(.i (cI y4 y0 1)),(.i (cI y4 y0 2))])
 .br (okR r1) (.br (ine (gI r1 0) 0) (.leaf (2,[(.i (gI r1 0))])) (.br (inb y0 (qf y1)) (.br (inb y0 (qf y3)) (let r2:TR:=(kR [(.i (cI y1 y0 0)),(.i (cI y1 y0 1)),(.i (cI y1 y0 2)),(.i (cI y1 y0 3)),(.i (cI y1 y0 4)),(.i (cI y1 y0 5)),(.b (cB y1 y0 6)),(.i (cI y3 y0 2))])
 .br (okR r2) (.br (not (gB r2 0)) (.leaf (2,[(.i 14)])) (.br (inb y0 (qf y2)) (.br (inb y0 (qf y4)) (let r3:TR:=(kR [(.i (cI y2 y0 0)),(.i (cI y2 y0 1)),(.i (cI y2 y0 2)),(.i (cI y2 y0 3)),(.i (cI y2 y0 4)),(.i (cI y2 y0 5)),(.b (cB y2 y0 6)),(.i (cI y4 y0 2))])
 .br (okR r3) (.br (not (gB r3 0)) (.leaf (2,[(.i 14)])) (.leaf (0,[(.i (qj .i64 y0 1)),(.r y1),(.r y2),(.r y3),(.r y4)]))) .fail) .fail) .fail)) .fail) .fail) .fail)) .fail) .fail)) .fail) .fail) (.leaf (1,[]))):=by kernel_rfl
theorem qp2(x0:R)(x1:R)(x2:R)(x3:R):q0Z [.r x0,.r x1,.r x2,.r x3]=(let r0:TR:=(q2L [(.r x0),(.r x1)])
 .br (okR r0) (.br (ine (gI r0 0) 0) (.leaf (0,[(.i (gI r0 0))])) (.br (ine (qf x2) (qf x0)) (.leaf (0,[(.i 8)])) (.br (ine (qf x3) (qf x1)) (.leaf (0,[(.i 8)])) (let r1:TR:=(qh q1A [(.i 0),(.r x0),(.r x1),(.r x2),(.r x3)])
 .br (okR r1) (.br (jIs r1 0) (.leaf (0,[(.i 0)])) (.leaf (0,[(.i (gI r1 0))]))) .fail)))) .fail):=by kernel_rfl
theorem qsz(x0:R)(x1:R)(x2:R)(x3:R):q9f [.r x0,.r x1,.r x2,.r x3]=(.br (ilt 40 (qf x0)) (.leaf (0,[(.b false)])) (.br (ilt 40 (qf x1)) (.leaf (0,[(.b false)])) (.br (ilt 40 (qf x2)) (.leaf (0,[(.b false)])) (.br (ilt 40 (qf x3)) (.leaf (0,[(.b false)])) (.br (ile (qf x0) 4) (.leaf (0,[(.b true)])) (let r0:TR:=(q0Z [(.r x0),(.r x1),(.r x2),(.r x3)])
 .br (okR r0) (.leaf (0,[(.b (ine (gI r0 0) 0))])) .fail)))))):=by kernel_rfl
theorem qtL(x0:R)(x1:R)(x2:R)(x3:R):q9i [.r x0,.r x1,.r x2,.r x3]=(let r0:TR:=(q9f [(.r x0),(.r x1),(.r x2),(.r x3)])
 .br (okR r0) (.leaf (0,[(.b (gB r0 0))])) .fail):=by kernel_rfl
theorem qrI(x0:R)(x1:R)(x2:R)(x3:R)(x4:Int):q4U [.r x0,.r x1,.r x2,.r x3,.i x4]=(.br (inb x4 (qf x0)) (.br (cB x0 x4 6) (.br (inb x4 (qf x3)) (.br (inb x4 (qf x2)) (.leaf (0,[(.i (qw .i64 (cI x3 x4 2) (cI x2 x4 2)))])) .fail) .fail) (.br (inb x4 (qf x2)) (.br (inb x4 (qf x3)) (.leaf (0,[(.i (qw .i64 (cI x2 x4 2) (cI x3 x4 2)))])) .fail) .fail)) .fail):=by kernel_rfl
theorem qp7(x0:Int)(x1:Int)(x2:Int)(x3:Int):q5i [.i x0,.i x1,.i x2,.i x3]=(.leaf (0,[(.i (qw .i64 x0 x2)),(.i (qw .i64 x1 x3))])):=by kernel_rfl
theorem qp4(x0:List UInt8):qN [.s x0]=(.br (inb 0 (qu x0)) (.leaf (0,[(.b (ieq (sat x0 0) 45))])) .fail):=by kernel_rfl
theorem qnb(x0:List UInt8)(x1:Bool):qO [.s x0,.b x1]=(.br x1 (.br (not (seq x0 [48])) (.br (ile ((qu [45])+(qu x0)) 140737488355328) (.leaf (0,[(.s (qbV [45] x0))])) .fail) (.leaf (0,[(.s x0)]))) (.leaf (0,[(.s x0)]))):=by kernel_rfl
theorem qs0(x0:List UInt8):qz [.s x0]=(.br (not (seq x0 [])) (.br (inb 0 (qu x0)) (.br (ieq (sat x0 0) 45) (.br (q6O (qu x0) (qu x0)) (.br (q6O 1 (qu x0)) (.leaf (0,[(.s (qet x0 1 (qu x0)))])) .fail) .fail) (.leaf (0,[(.s x0)]))) .fail) (.leaf (0,[(.s x0)]))):=by kernel_rfl
theorem qnG(x0:List UInt8):zT [.s x0]=(let r0:TR:=(qz [(.s x0)])
 .br (okR r0) (let r1:TR:=(qN [(.s x0)])
 .br (okR r1) (let r2:TR:=(qO [(.s (gS r0 0)),(.b (not (gB r1 0)))])
 .br (okR r2) (.leaf (0,[(.s (gS r2 0))])) .fail) .fail) .fail):=by kernel_rfl
theorem qoE(y0:Int)(y1:List UInt8):q5b [.i y0,.s y1]=(.br (ilt 9 y0) (.br (ile ((qu (qgk [[(.i (j5 .u8 (qj .i64 48 (q69 y0 10))))]]))+(qu y1)) 140737488355328) (.leaf (0,[(.i (u6 .i64 y0 10)),(.s (qbV (qgk [[(.i (j5 .u8 (qj .i64 48 (q69 y0 10))))]]) y1))])) .fail) (.leaf (1,[(.i y0),(.s y1)]))):=by kernel_rfl
theorem qsv(x0:Int):q4P [.i x0]=(.br (ieq x0 (qw .i64 0 x0)) (.br (ine x0 0) (.leaf (0,[(.s [45,57,50,50,51,51,55,50,48,51,54,56,53,52,55,55,53,56,48,56])])) (.br (ilt x0 0) .fail (let r0:TR:=(qh q5b [(.i x0),(.s [])])
 .br (okR r0) (.br (ile ((qu (qgk [[(.i (j5 .u8 (qj .i64 48 (gI r0 0))))]]))+(qu (gS r0 1))) 140737488355328) (.leaf (0,[(.s (qbV (qgk [[(.i (j5 .u8 (qj .i64 48 (gI r0 0))))]]) (gS r0 1)))])) .fail) .fail))) (.br (ilt x0 0) .fail (let r0:TR:=(qh q5b [(.i x0),(.s [])])
 .br (okR r0) (.br (ile ((qu (qgk [[(.i (j5 .u8 (qj .i64 48 (gI r0 0))))]]))+(qu (gS r0 1))) 140737488355328) (.leaf (0,[(.s (qbV (qgk [[(.i (j5 .u8 (qj .i64 48 (gI r0 0))))]]) (gS r0 1)))])) .fail) .fail))):=by kernel_rfl
theorem qqO(y0:Int)(y1:List UInt8):q7d [.i y0,.s y1]=(.br (ilt 9 y0) (.br (ile ((qu (qgk [[(.i (j5 .u8 (qj .i64 48 (q69 y0 10))))]]))+(qu y1)) 140737488355328) (.leaf (0,[(.i (u6 .i64 y0 10)),(.s (qbV (qgk [[(.i (j5 .u8 (qj .i64 48 (q69 y0 10))))]]) y1))])) .fail) (.leaf (1,[(.i y0),(.s y1)]))):=by kernel_rfl
theorem qo3(x0:Int):zf [.i x0]=(.br (ieq x0 (qw .i64 0 x0)) (.br (ine x0 0) (.leaf (0,[(.s [45,57,50,50,51,51,55,50,48,51,54,56,53,52,55,55,53,56,48,56])])) (.br (ilt x0 0) (let r0:TR:=(q4P [(.i (qw .i64 0 x0))])
 .br (okR r0) (let r1:TR:=(zT [(.s (gS r0 0))])
 .br (okR r1) (.leaf (0,[(.s (gS r1 0))])) .fail) .fail) (let r0:TR:=(qh q7d [(.i x0),(.s [])])
 .br (okR r0) (.br (ile ((qu (qgk [[(.i (j5 .u8 (qj .i64 48 (gI r0 0))))]]))+(qu (gS r0 1))) 140737488355328) (.leaf (0,[(.s (qbV (qgk [[(.i (j5 .u8 (qj .i64 48 (gI r0 0))))]]) (gS r0 1)))])) .fail) .fail))) (.br (ilt x0 0) (let r0:TR:=(q4P [(.i (qw .i64 0 x0))])
 .br (okR r0) (let r1:TR:=(zT [(.s (gS r0 0))])
 .br (okR r1) (.leaf (0,[(.s (gS r1 0))])) .fail) .fail) (let r0:TR:=(qh q7d [(.i x0),(.s [])])
 .br (okR r0) (.br (ile ((qu (qgk [[(.i (j5 .u8 (qj .i64 48 (gI r0 0))))]]))+(qu (gS r0 1))) 140737488355328) (.leaf (0,[(.s (qbV (qgk [[(.i (j5 .u8 (qj .i64 48 (gI r0 0))))]]) (gS r0 1)))])) .fail) .fail))):=by kernel_rfl
theorem qoJ(x0:Int):q1g [.i x0]=(.br (okR (zf [(.i x0)])) (.leaf (0,[(.s (gS (zf [(.i x0)]) 0))])) .fail):=by kernel_rfl
theorem qcK(y0:List UInt8)(y1:Int)(y2:List UInt8)(y3:Int):uT [.s y0,.i y1,.s y2,.i y3]=(.br (ilt y3 (qu y2)) (.br (inb y3 (qu y2)) (.leaf (0,[(.s y0),(.i (qj .i64 (uk .i64 10 y1) (j5 .i64 (qw .u8 (sat y2 y3) 48)))),(.s y2),(.i (qj .i64 y3 1))])) .fail) (.leaf (1,[(.s y0),(.i y1)]))):=by kernel_rfl
theorem qmY(x0:List UInt8):uf [.s x0]=(let r0:TR:=(qz [(.s x0)])
 .br (okR r0) (let r1:TR:=(qh uT [(.s x0),(.i 0),(.s (gS r0 0)),(.i 0)])
 .br (okR r1) (let r2:TR:=(qN [(.s (gS r1 0))])
 .br (okR r2) (.br (gB r2 0) (.leaf (0,[(.i (qw .i64 0 (gI r1 1)))])) (.leaf (0,[(.i (gI r1 1))]))) .fail) .fail) .fail):=by kernel_rfl
theorem qpf(x0:List UInt8)(x1:List UInt8):wA [.s x0,.s x1]=(.br (okR (qz [(.s x0)])) (.br (ilt 18 (qu (gS (qz [(.s x0)]) 0))) (.leaf (0,[(.i 0),(.i 0),(.b false)])) (.br (okR (qz [(.s x1)])) (.br (ilt 18 (qu (gS (qz [(.s x1)]) 0))) (.leaf (0,[(.i 0),(.i 0),(.b false)])) (.br (okR (uf [(.s x0)])) (.br (okR (uf [(.s x1)])) (.leaf (0,[(.i (gI (uf [(.s x0)]) 0)),(.i (gI (uf [(.s x1)]) 0)),(.b true)])) .fail) .fail)) .fail)) .fail):=by kernel_rfl
theorem qn5(y0:List UInt8):q40 [.s y0]=(.br (ilt 1 (qu y0)) (.br (inb 0 (qu y0)) (.br (ieq (sat y0 0) 48) (.br (q6O (qu y0) (qu y0)) (.br (q6O 1 (qu y0)) (.leaf (0,[(.s (qet y0 1 (qu y0)))])) .fail) .fail) (.leaf (1,[(.s y0)]))) .fail) (.leaf (1,[(.s y0)]))):=by kernel_rfl
theorem qqv(x0:List UInt8):zX [.s x0]=(let r0:TR:=(qh q40 [(.s x0)])
 .br (okR r0) (.leaf (0,[(.s (gS r0 0))])) .fail):=by kernel_rfl
theorem qqG(x0:List UInt8)(x1:List UInt8):kf [.s x0,.s x1]=(.br (ilt (qu x0) (qu x1)) (.leaf (0,[(.b true)])) (.br (ieq (qu x0) (qu x1)) (.leaf (0,[(.b (slt x0 x1))])) (.leaf (0,[(.b false)])))):=by kernel_rfl
theorem qft(y0:List UInt8)(y1:Int)(y2:Int)(y3:R):q1D [.s y0,.i y1,.i y2,.r y3]=(.br (ilt y2 y1) (.br (inb y2 (qf y3)) (.leaf (0,[(.s y0),(.i y1),(.i (qj .i64 y2 1)),(.r (q6W y3 y2 0 [(.i 48)]))])) .fail) (.leaf (1,[(.s y0),(.i y1),(.r y3)]))):=by kernel_rfl
theorem qrE(x0:List UInt8)(x1:Int):q2x [.s x0,.i x1]=(.br (ieq x1 x1) (.br (q6O x1 140737488355328) (let r0:TR:=(qh q1D [(.s x0),(.i x1),(.i 0),(.r (q3x x1 [(.i 0)]))])
 .br (okR r0) (.br (ilt 0 (qf (gR r0 2))) (.br (q6O (qw .i64 (gI r0 1) (qu (gS r0 0))) (qf (gR r0 2))) (.br (ile (qu (gS r0 0)) (qvw (qf (gR r0 2)) (qw .i64 (gI r0 1) (qu (gS r0 0))))) (.leaf (0,[(.s (qgk (qtZ (gR r0 2) (qw .i64 (gI r0 1) (qu (gS r0 0))) (gS r0 0))))])) .fail) .fail) .fail) .fail) .fail) .fail):=by kernel_rfl
theorem qoc(x0:Int)(x1:Int)(x2:Int)(x3:Bool):q1F [.i x0,.i x1,.i x2,.b x3]=(.br x3 (.br (ilt 9 (qj .i64 (qj .i64 (j5 .i64 (qw .u8 x0 48)) (j5 .i64 (qw .u8 x1 48))) x2)) (.leaf (0,[(.i (j5 .u8 (qw .i64 (qj .i64 48 (qj .i64 (qj .i64 (j5 .i64 (qw .u8 x0 48)) (j5 .i64 (qw .u8 x1 48))) x2)) 10))),(.i 1)])) (.br (ilt (qj .i64 (qj .i64 (j5 .i64 (qw .u8 x0 48)) (j5 .i64 (qw .u8 x1 48))) x2) 0) (.leaf (0,[(.i (j5 .u8 (qj .i64 (qj .i64 48 (qj .i64 (qj .i64 (j5 .i64 (qw .u8 x0 48)) (j5 .i64 (qw .u8 x1 48))) x2)) 10))),(.i 1)])) (.leaf (0,[(.i (j5 .u8 (qj .i64 48 (qj .i64 (qj .i64 (j5 .i64 (qw .u8 x0 48)) (j5 .i64 (qw .u8 x1 48))) x2)))),(.i 0)])))) (.br (ilt 9 (qw .i64 (qw .i64 (j5 .i64 (qw .u8 x0 48)) (j5 .i64 (qw .u8 x1 48))) x2)) (.leaf (0,[(.i (j5 .u8 (qw .i64 (qj .i64 48 (qw .i64 (qw .i64 (j5 .i64 (qw .u8 x0 48)) (j5 .i64 (qw .u8 x1 48))) x2)) 10))),(.i 1)])) (.br (ilt (qw .i64 (qw .i64 (j5 .i64 (qw .u8 x0 48)) (j5 .i64 (qw .u8 x1 48))) x2) 0) (.leaf (0,[(.i (j5 .u8 (qj .i64 (qj .i64 48 (qw .i64 (qw .i64 (j5 .i64 (qw .u8 x0 48)) (j5 .i64 (qw .u8 x1 48))) x2)) 10))),(.i 1)])) (.leaf (0,[(.i (j5 .u8 (qj .i64 48 (qw .i64 (qw .i64 (j5 .i64 (qw .u8 x0 48)) (j5 .i64 (qw .u8 x1 48))) x2)))),(.i 0)]))))):=by kernel_rfl
theorem qlU(y0:List UInt8)(y1:List UInt8)(y2:Bool)(y3:Int)(y4:Int)(y5:R):q0E [.s y0,.s y1,.b y2,.i y3,.i y4,.r y5]=(.br (ile 0 y4) (.br (inb y4 (qu y0)) (.br (inb y4 (qu y1)) (let r0:TR:=(q1F [(.i (sat y0 y4)),(.i (sat y1 y4)),(.i y3),(.b y2)])
 .br (okR r0) (.br (inb y4 (qf y5)) (.leaf (0,[(.s y0),(.s y1),(.b y2),(.i (gI r0 1)),(.i (qw .i64 y4 1)),(.r (q6W y5 y4 0 [(.i (gI r0 0))]))])) .fail) .fail) .fail) .fail) (.leaf (1,[(.r y5)]))):=by kernel_rfl
theorem qoP(x0:List UInt8)(x1:List UInt8)(x2:Bool):vP [.s x0,.s x1,.b x2]=(let r0:TR:=(q2x [(.s x0),(.i (qj .i64 (qer (qu x0) (qu x1)) 1))])
 .br (okR r0) (let r1:TR:=(q2x [(.s x1),(.i (qj .i64 (qer (qu x0) (qu x1)) 1))])
 .br (okR r1) (.br (ieq (qj .i64 (qer (qu x0) (qu x1)) 1) (qj .i64 (qer (qu x0) (qu x1)) 1)) (.br (q6O (qj .i64 (qer (qu x0) (qu x1)) 1) 140737488355328) (let r2:TR:=(qh q0E [(.s (gS r0 0)),(.s (gS r1 0)),(.b x2),(.i 0),(.i (qw .i64 (qj .i64 (qer (qu x0) (qu x1)) 1) 1)),(.r (q3x (qj .i64 (qer (qu x0) (qu x1)) 1) [(.i 0)]))])
 .br (okR r2) (let r3:TR:=(zX [(.s (qgk (gR r2 0)))])
 .br (okR r3) (.leaf (0,[(.s (gS r3 0))])) .fail) .fail) .fail) .fail) .fail) .fail):=by kernel_rfl
theorem qhH(y0:List UInt8)(y1:List UInt8)(y2:List UInt8)(y3:List UInt8)(y4:Int)(y5:Int):yj [.s y0,.s y1,.s y2,.s y3,.i y4,.i y5]=(let r0:TR:=(kf [(.s y3),(.s y1)])
 .br (okR r0) (.br (not (gB r0 0)) (let r1:TR:=(vP [(.s y3),(.s y1),(.b false)])
 .br (okR r1) (.leaf (0,[(.s y0),(.s y1),(.s y2),(.s (gS r1 0)),(.i y4),(.i (qj .u8 y5 1))])) .fail) (.leaf (1,[(.s y0),(.s y1),(.s y2),(.s y3),(.i y4),(.i y5)]))) .fail):=by kernel_rfl
theorem qiX(y0:List UInt8)(y1:List UInt8)(y2:List UInt8)(y3:List UInt8)(y4:Int):q0p [.s y0,.s y1,.s y2,.s y3,.i y4]=(.br (ilt y4 (qu y0)) (.br (q6O (qj .i64 y4 1) (qu y0)) (.br (q6O y4 (qj .i64 y4 1)) (.br (ile ((qu y3)+(qu (qet y0 y4 (qj .i64 y4 1)))) 140737488355328) (let r0:TR:=(zX [(.s (qbV y3 (qet y0 y4 (qj .i64 y4 1))))])
 .br (okR r0) (let r1:TR:=(qh yj [(.s y0),(.s y1),(.s y2),(.s (gS r0 0)),(.i y4),(.i 48)])
 .br (okR r1) (.br (ile ((qu (gS r1 2))+(qu (qgk [[(.i (gI r1 5))]]))) 140737488355328) (.leaf (0,[(.s (gS r1 0)),(.s (gS r1 1)),(.s (qbV (gS r1 2) (qgk [[(.i (gI r1 5))]]))),(.s (gS r1 3)),(.i (qj .i64 (gI r1 4) 1))])) .fail) .fail) .fail) .fail) .fail) .fail) (.leaf (1,[(.s y2),(.s y3)]))):=by kernel_rfl
theorem qlD(x0:List UInt8)(x1:List UInt8):q2D [.s x0,.s x1]=(let r0:TR:=(qh q0p [(.s x0),(.s x1),(.s []),(.s [48]),(.i 0)])
 .br (okR r0) (let r1:TR:=(zX [(.s (gS r0 0))])
 .br (okR r1) (.leaf (0,[(.s (gS r1 0)),(.s (gS r0 1))])) .fail) .fail):=by kernel_rfl
theorem qqT(x0:List UInt8)(x1:List UInt8):q7h [.s x0,.s x1]=(let r0:TR:=(wA [(.s x0),(.s x1)])
 .br (okR r0) (.br (gB r0 2) (let r1:TR:=(zf [(.i (qj .i64 (gI r0 0) (gI r0 1)))])
 .br (okR r1) (.leaf (0,[(.s (gS r1 0))])) .fail) (let r1:TR:=(qz [(.s x0)])
 .br (okR r1) (let r2:TR:=(qz [(.s x1)])
 .br (okR r2) (let r3:TR:=(qN [(.s x0)])
 .br (okR r3) (let r4:TR:=(qN [(.s x1)])
 .br (okR r4) (.br (beq (gB r3 0) (gB r4 0)) (let r5:TR:=(vP [(.s (gS r1 0)),(.s (gS r2 0)),(.b true)])
 .br (okR r5) (.br (okR r3) (let r6:TR:=(qO [(.s (gS r5 0)),(.b (gB r3 0))])
 .br (okR r6) (.leaf (0,[(.s (gS r6 0))])) .fail) .fail) .fail) (let r5:TR:=(kf [(.s (gS r1 0)),(.s (gS r2 0))])
 .br (okR r5) (.br (gB r5 0) (let r6:TR:=(vP [(.s (gS r2 0)),(.s (gS r1 0)),(.b false)])
 .br (okR r6) (.br (okR r4) (let r7:TR:=(qO [(.s (gS r6 0)),(.b (gB r4 0))])
 .br (okR r7) (.leaf (0,[(.s (gS r7 0))])) .fail) .fail) .fail) (let r6:TR:=(vP [(.s (gS r1 0)),(.s (gS r2 0)),(.b false)])
 .br (okR r6) (.br (okR r3) (let r7:TR:=(qO [(.s (gS r6 0)),(.b (gB r3 0))])
 .br (okR r7) (.leaf (0,[(.s (gS r7 0))])) .fail) .fail) .fail)) .fail)) .fail) .fail) .fail) .fail)) .fail):=by kernel_rfl
theorem qoU(x0:List UInt8)(x1:List UInt8):ki [.s x0,.s x1]=(let r0:TR:=(zT [(.s x1)])
 .br (okR r0) (let r1:TR:=(q7h [(.s x0),(.s (gS r0 0))])
 .br (okR r1) (.leaf (0,[(.s (gS r1 0))])) .fail) .fail):=by kernel_rfl
theorem qjD(y0:List UInt8)(y1:List UInt8)(y2:Int)(y3:Int)(y4:R):uw [.s y0,.s y1,.i y2,.i y3,.r y4]=(.br (ilt y3 (qu y1)) (.br (inb (qj .i64 (qj .i64 y2 y3) 1) (qf y4)) (.br (inb y2 (qu y0)) (.br (inb y3 (qu y1)) (.br (inb (qj .i64 (qj .i64 y2 y3) 1) (qf y4)) (.leaf (0,[(.s y0),(.s y1),(.i y2),(.i (qj .i64 y3 1)),(.r (q6W y4 (qj .i64 (qj .i64 y2 y3) 1) 0 [(.i (qj .i64 (cI y4 (qj .i64 (qj .i64 y2 y3) 1) 0) (uk .i64 (j5 .i64 (qw .u8 (sat y0 y2) 48)) (j5 .i64 (qw .u8 (sat y1 y3) 48)))))]))])) .fail) .fail) .fail) .fail) (.leaf (1,[(.s y0),(.s y1),(.i y2),(.r y4)]))):=by kernel_rfl
theorem qig(y0:List UInt8)(y1:List UInt8)(y2:Int)(y3:R):ur [.s y0,.s y1,.i y2,.r y3]=(.br (ilt y2 (qu y0)) (let r0:TR:=(qh uw [(.s y0),(.s y1),(.i y2),(.i 0),(.r y3)])
 .br (okR r0) (.leaf (0,[(.s (gS r0 0)),(.s (gS r0 1)),(.i (qj .i64 (gI r0 2) 1)),(.r (gR r0 3))])) .fail) (.leaf (1,[(.r y3)]))):=by kernel_rfl
theorem qhT(y0:Int)(y1:Int)(y2:R)(y3:R):ya [.i y0,.i y1,.r y2,.r y3]=(.br (ile 0 y1) (.br (inb y1 (qf y2)) (.br (inb y1 (qf y3)) (.leaf (0,[(.i (u6 .i64 (qj .i64 y0 (cI y2 y1 0)) 10)),(.i (qw .i64 y1 1)),(.r y2),(.r (q6W y3 y1 0 [(.i (j5 .u8 (qj .i64 48 (q69 (qj .i64 y0 (cI y2 y1 0)) 10))))]))])) .fail) .fail) (.leaf (1,[(.r y3)]))):=by kernel_rfl
theorem qlL(x0:List UInt8)(x1:List UInt8):q0H [.s x0,.s x1]=(.br (ieq (qj .i64 (qu x0) (qu x1)) (qj .i64 (qu x0) (qu x1))) (.br (q6O (qj .i64 (qu x0) (qu x1)) 17592186044416) (let r0:TR:=(qh ur [(.s x0),(.s x1),(.i 0),(.r (q3x (qj .i64 (qu x0) (qu x1)) [(.i 0)]))])
 .br (okR r0) (.br (ieq (qf (gR r0 0)) (qf (gR r0 0))) (.br (q6O (qf (gR r0 0)) 140737488355328) (let r1:TR:=(qh ya [(.i 0),(.i (qw .i64 (qf (gR r0 0)) 1)),(.r (gR r0 0)),(.r (q3x (qf (gR r0 0)) [(.i 0)]))])
 .br (okR r1) (let r2:TR:=(zX [(.s (qgk (gR r1 0)))])
 .br (okR r2) (.leaf (0,[(.s (gS r2 0))])) .fail) .fail) .fail) .fail) .fail) .fail) .fail):=by kernel_rfl
theorem qoW(x0:List UInt8)(x1:List UInt8):q16 [.s x0,.s x1]=(let r0:TR:=(wA [(.s x0),(.s x1)])
 .br (okR r0) (.br (gB r0 2) (.br (ile (qj .i64 (qu x0) (qu x1)) 18) (let r1:TR:=(zf [(.i (uk .i64 (gI r0 0) (gI r0 1)))])
 .br (okR r1) (.leaf (0,[(.s (gS r1 0))])) .fail) (let r1:TR:=(qz [(.s x0)])
 .br (okR r1) (let r2:TR:=(qz [(.s x1)])
 .br (okR r2) (let r3:TR:=(q0H [(.s (gS r1 0)),(.s (gS r2 0))])
 .br (okR r3) (let r4:TR:=(qN [(.s x0)])
 .br (okR r4) (let r5:TR:=(qN [(.s x1)])
 .br (okR r5) (let r6:TR:=(qO [(.s (gS r3 0)),(.b (not (beq (gB r4 0) (gB r5 0))))])
 .br (okR r6) (.leaf (0,[(.s (gS r6 0))])) .fail) .fail) .fail) .fail) .fail) .fail)) (let r1:TR:=(qz [(.s x0)])
 .br (okR r1) (let r2:TR:=(qz [(.s x1)])
 .br (okR r2) (let r3:TR:=(q0H [(.s (gS r1 0)),(.s (gS r2 0))])
 .br (okR r3) (let r4:TR:=(qN [(.s x0)])
 .br (okR r4) (let r5:TR:=(qN [(.s x1)])
 .br (okR r5) (let r6:TR:=(qO [(.s (gS r3 0)),(.b (not (beq (gB r4 0) (gB r5 0))))])
 .br (okR r6) (.leaf (0,[(.s (gS r6 0))])) .fail) .fail) .fail) .fail) .fail) .fail)) .fail):=by kernel_rfl
theorem qnm(x0:List UInt8)(x1:List UInt8):wu [.s x0,.s x1]=(let r0:TR:=(wA [(.s x0),(.s x1)])
 .br (okR r0) (.br (gB r0 2) (.br (ine (gI r0 1) 0) (.br (ine (q69 (gI r0 0) (gI r0 1)) 0) (.br (not (beq (ilt (q69 (gI r0 0) (gI r0 1)) 0) (ilt (gI r0 1) 0))) (.br (ine (gI r0 1) 0) (let r1:TR:=(zf [(.i (u6 .i64 (qw .i64 (gI r0 0) (qj .i64 (q69 (gI r0 0) (gI r0 1)) (gI r0 1))) (gI r0 1)))])
 .br (okR r1) (let r2:TR:=(zf [(.i (qj .i64 (q69 (gI r0 0) (gI r0 1)) (gI r0 1)))])
 .br (okR r2) (.leaf (0,[(.s (gS r1 0)),(.s (gS r2 0))])) .fail) .fail) .fail) (.br (ine (gI r0 1) 0) (let r1:TR:=(zf [(.i (u6 .i64 (qw .i64 (gI r0 0) (q69 (gI r0 0) (gI r0 1))) (gI r0 1)))])
 .br (okR r1) (let r2:TR:=(zf [(.i (q69 (gI r0 0) (gI r0 1)))])
 .br (okR r2) (.leaf (0,[(.s (gS r1 0)),(.s (gS r2 0))])) .fail) .fail) .fail)) (.br (ine (gI r0 1) 0) (let r1:TR:=(zf [(.i (u6 .i64 (qw .i64 (gI r0 0) (q69 (gI r0 0) (gI r0 1))) (gI r0 1)))])
 .br (okR r1) (let r2:TR:=(zf [(.i (q69 (gI r0 0) (gI r0 1)))])
 .br (okR r2) (.leaf (0,[(.s (gS r1 0)),(.s (gS r2 0))])) .fail) .fail) .fail)) .fail) (let r1:TR:=(qz [(.s x0)])
 .br (okR r1) (let r2:TR:=(qz [(.s x1)])
 .br (okR r2) (let r3:TR:=(q2D [(.s (gS r1 0)),(.s (gS r2 0))])
 .br (okR r3) (let r4:TR:=(qN [(.s x0)])
 .br (okR r4) (let r5:TR:=(qN [(.s x1)])
 .br (okR r5) (let r6:TR:=(qO [(.s (gS r3 0)),(.b (not (beq (gB r4 0) (gB r5 0))))])
 .br (okR r6) (.br (not (seq (gS r3 1) [48])) (.br (okR r4) (.br (okR r5) (.br (not (beq (gB r4 0) (gB r5 0))) (let r7:TR:=(ki [(.s (gS r6 0)),(.s [49])])
 .br (okR r7) (let r8:TR:=(q16 [(.s (gS r7 0)),(.s x1)])
 .br (okR r8) (let r9:TR:=(ki [(.s x0),(.s (gS r8 0))])
 .br (okR r9) (.leaf (0,[(.s (gS r7 0)),(.s (gS r9 0))])) .fail) .fail) .fail) (let r7:TR:=(q16 [(.s (gS r6 0)),(.s x1)])
 .br (okR r7) (let r8:TR:=(ki [(.s x0),(.s (gS r7 0))])
 .br (okR r8) (.leaf (0,[(.s (gS r6 0)),(.s (gS r8 0))])) .fail) .fail)) .fail) .fail) (let r7:TR:=(q16 [(.s (gS r6 0)),(.s x1)])
 .br (okR r7) (let r8:TR:=(ki [(.s x0),(.s (gS r7 0))])
 .br (okR r8) (.leaf (0,[(.s (gS r6 0)),(.s (gS r8 0))])) .fail) .fail)) .fail) .fail) .fail) .fail) .fail) .fail)) .fail):=by kernel_rfl
theorem qiQ(y0:Int)(y1:Int):um [.i y0,.i y1]=(.br (ilt 0 y1) (.br (ine y1 0) (.leaf (0,[(.i y1),(.i (q69 y0 y1))])) .fail) (.leaf (1,[(.i y0)]))):=by kernel_rfl
theorem qkb(y0:List UInt8)(y1:List UInt8):q1n [.s y0,.s y1]=(.br (not (seq y1 [48])) (let r0:TR:=(wA [(.s y0),(.s y1)])
 .br (okR r0) (.br (gB r0 2) (let r1:TR:=(qh um [(.i (gI r0 0)),(.i (gI r0 1))])
 .br (okR r1) (let r2:TR:=(zf [(.i (gI r1 0))])
 .br (okR r2) (.leaf (2,[(.s (gS r2 0))])) .fail) .fail) (let r1:TR:=(wu [(.s y0),(.s y1)])
 .br (okR r1) (.leaf (0,[(.s y1),(.s (gS r1 1))])) .fail)) .fail) (.leaf (1,[(.s y0)]))):=by kernel_rfl
theorem qn4(x0:List UInt8)(x1:List UInt8):q4c [.s x0,.s x1]=(let r0:TR:=(qz [(.s x0)])
 .br (okR r0) (let r1:TR:=(qO [(.s (gS r0 0)),(.b false)])
 .br (okR r1) (let r2:TR:=(qz [(.s x1)])
 .br (okR r2) (let r3:TR:=(qO [(.s (gS r2 0)),(.b false)])
 .br (okR r3) (let r4:TR:=(qh q1n [(.s (gS r1 0)),(.s (gS r3 0))])
 .br (okR r4) (.br (jIs r4 0) (.leaf (0,[(.s (gS r4 0))])) (.leaf (0,[(.s (gS r4 0))]))) .fail) .fail) .fail) .fail) .fail):=by kernel_rfl
theorem qmU(x0:List UInt8)(x1:List UInt8):q3O [.s x0,.s x1]=(let r0:TR:=(q4c [(.s x0),(.s x1)])
 .br (okR r0) (let r1:TR:=(qN [(.s x1)])
 .br (okR r1) (.br (gB r1 0) (let r2:TR:=(zT [(.s (gS r0 0))])
 .br (okR r2) (let r3:TR:=(wu [(.s x0),(.s (gS r2 0))])
 .br (okR r3) (let r4:TR:=(wu [(.s x1),(.s (gS r2 0))])
 .br (okR r4) (.br (seq (gS r4 0) [49]) (.leaf (0,[(.s (gS r3 0))])) (.br (ile ((qu (gS r3 0))+(qu [47])) 140737488355328) (.br (ile ((qu (qbV (gS r3 0) [47]))+(qu (gS r4 0))) 140737488355328) (.leaf (0,[(.s (qbV (qbV (gS r3 0) [47]) (gS r4 0)))])) .fail) .fail)) .fail) .fail) .fail) (let r2:TR:=(wu [(.s x0),(.s (gS r0 0))])
 .br (okR r2) (let r3:TR:=(wu [(.s x1),(.s (gS r0 0))])
 .br (okR r3) (.br (seq (gS r3 0) [49]) (.leaf (0,[(.s (gS r2 0))])) (.br (ile ((qu (gS r2 0))+(qu [47])) 140737488355328) (.br (ile ((qu (qbV (gS r2 0) [47]))+(qu (gS r3 0))) 140737488355328) (.leaf (0,[(.s (qbV (qbV (gS r2 0) [47]) (gS r3 0)))])) .fail) .fail)) .fail) .fail)) .fail) .fail):=by kernel_rfl
theorem qqU(x0:Int)(x1:Int):q55 [.i x0,.i x1]=(let r0:TR:=(zf [(.i x0)])
 .br (okR r0) (let r1:TR:=(zf [(.i x1)])
 .br (okR r1) (let r2:TR:=(q3O [(.s (gS r0 0)),(.s (gS r1 0))])
 .br (okR r2) (.leaf (0,[(.s (gS r2 0))])) .fail) .fail) .fail):=by kernel_rfl
theorem qdZ(y0:Int)(y1:R)(y2:R)(y3:R)(y4:R)(y5:R):q0D [.i y0,.r y1,.r y2,.r y3,.r y4,.r y5]=(.br (ilt y0 (qf y3)) (.br (inb y0 (qf y4)) (.br (inb y0 (qf y3)) (let r0:TR:=(q5i [(.i (cI y4 y0 0)),(.i (cI y4 y0 1)),(.i (cI y3 y0 0)),(.i (cI y3 y0 1))])
 .br (okR r0) (let r1:TR:=(q4U [(.r y1),(.r y2),(.r y3),(.r y4),(.i y0)])
 .br (okR r1) (let r2:TR:=(q1g [(.i (gI r0 0))])
 .br (okR r2) (let r3:TR:=(q1g [(.i (gI r0 1))])
 .br (okR r3) (let r4:TR:=(q55 [(.i (uk .i64 (gI r1 0) (gI r1 0))),(.i 4)])
 .br (okR r4) (.br (ile ((qf y5)+(qf [[(.s (gS r2 0)),(.s (gS r3 0)),(.s (gS r4 0))]])) 2932031007402) (.leaf (0,[(.i (qj .i64 y0 1)),(.r y1),(.r y2),(.r y3),(.r y4),(.r (q3z y5 [[(.s (gS r2 0)),(.s (gS r3 0)),(.s (gS r4 0))]]))])) .fail) .fail) .fail) .fail) .fail) .fail) .fail) .fail) (.leaf (1,[(.r y5)]))):=by kernel_rfl
theorem qp5(x0:R)(x1:R)(x2:R)(x3:R):q30 [.r x0,.r x1,.r x2,.r x3]=(let r0:TR:=(qh q0D [(.i 0),(.r x0),(.r x1),(.r x2),(.r x3),(.r [])])
 .br (okR r0) (.leaf (0,[(.r (gR r0 0))])) .fail):=by kernel_rfl
theorem qoY(x0:R)(x1:R)(x2:R)(x3:R):vR [.r x0,.r x1,.r x2,.r x3]=(let r0:TR:=(q9i [(.r x0),(.r x1),(.r x2),(.r x3)])
 .br (okR r0) (.br (gB r0 0) (let r1:TR:=(q0Z [(.r x0),(.r x1),(.r x2),(.r x3)])
 .br (okR r1) (.leaf (0,[(.b (ieq (gI r1 0) 0))])) .fail) (.leaf (0,[(.b false)]))) .fail):=by kernel_rfl
theorem q3F(x0:R):qA [.r x0]=(.br (ilt 0 (qf x0)) (.br (ile ((qf [])+(qf x0)) 5864062014805) (.leaf (0,[(.r (q3z [] x0))])) .fail) .fail):=by kernel_rfl
theorem q4d(y0:Bool)(y1:R)(y2:Int)(y3:Int)(y4:R)(y5:R)(y6:Int)(y7:Int)(y8:R)(y9:R):zw [.b y0,.r y1,.i y2,.i y3,.r y4,.r y5,.i y6,.i y7,.r y8,.r y9]=(.br (ilt y3 y2) (.br (inb y3 (qf y9)) (.br (inb y3 (qf y9)) (.br (inb y3 (qf (q6W y9 y3 0 [(.i (qj .i64 (cI y9 y3 0) y6))]))) (.br (inb y3 (qf (q6W y9 y3 0 [(.i (qj .i64 (cI y9 y3 0) y6))]))) (.leaf (0,[(.b y0),(.r y1),(.i y2),(.i (qj .i64 y3 1)),(.r y4),(.r y5),(.i y6),(.i y7),(.r y8),(.r (q6W (q6W y9 y3 0 [(.i (qj .i64 (cI y9 y3 0) y6))]) y3 1 [(.i (qj .i64 (cI (q6W y9 y3 0 [(.i (qj .i64 (cI y9 y3 0) y6))]) y3 1) y7))]))])) .fail) .fail) .fail) .fail) (.leaf (1,[(.b y0),(.r y1),(.r y4),(.r y5),(.r y8),(.r y9)]))):=by kernel_rfl
theorem qen(x0:R)(x1:R)(x2:R)(x3:R)(x4:Int)(x5:Int):jP [.r x0,.r x1,.r x2,.r x3,.i x4,.i x5]=(let r0:TR:=(vR [(.r x0),(.r x1),(.r x2),(.r x3)])
 .br (okR r0) (.br (not (gB r0 0)) (let r1:TR:=(zp [])
 .br (okR r1) (.leaf (0,[(.b (gB r1 0))])) .fail) (let r1:TR:=(va [(.i x4),(.i x5)])
 .br (okR r1) (.br (not (gB r1 0)) (let r2:TR:=(zp [])
 .br (okR r2) (.leaf (0,[(.b (gB r2 0))])) .fail) (let r2:TR:=(wc [(.r x0),(.r x1),(.r x2),(.r x3)])
 .br (okR r2) (let r3:TR:=(qv [(.r x0),(.r x1),(.r x2),(.r x3)])
 .br (okR r3) (let r4:TR:=(z7 [(.r x0),(.r x1),(.r x2),(.r x3)])
 .br (okR r4) (.br (ine (qj .i64 (qj .i64 (gI r2 1) (gI r3 4)) (gI r4 1)) 0) (.leaf (0,[(.b false)])) (.br (ieq (qf (gR r2 0)) 0) (.br (not (gB r3 0)) (.leaf (0,[(.b false)])) (.br (not (beq (gB r3 0) (ieq (qf (gR r4 0)) 0))) (.leaf (0,[(.b false)])) (.br (ilt 3 (qf (gR r4 0))) (.leaf (0,[(.b false)])) (let r5:TR:=(qA [(.r x2)])
 .br (okR r5) (let r6:TR:=(qh zw [(.b (gB r3 0)),(.r (gR r4 0)),(.i (qf (gR r5 0))),(.i 0),(.r x0),(.r x1),(.i x4),(.i x5),(.r x3),(.r (gR r5 0))])
 .br (okR r6) (let r7:TR:=(vR [(.r (gR r6 2)),(.r (gR r6 3)),(.r (gR r6 5)),(.r (gR r6 4))])
 .br (okR r7) (.br (not (gB r7 0)) (let r8:TR:=(zp [])
 .br (okR r8) (.leaf (0,[(.b (gB r8 0))])) .fail) (let r8:TR:=(qv [(.r (gR r6 2)),(.r (gR r6 3)),(.r (gR r6 5)),(.r (gR r6 4))])
 .br (okR r8) (let r9:TR:=(z7 [(.r (gR r6 2)),(.r (gR r6 3)),(.r (gR r6 5)),(.r (gR r6 4))])
 .br (okR r9) (.br (ieq (qj .i64 (gI r8 4) (gI r9 1)) 0) (.br (beq (gB r8 0) (gB r6 0)) (let r10:TR:=(qK [(.r (gR r6 1)),(.r (gR r9 0))])
 .br (okR r10) (.br (gB r10 0) (let r11:TR:=(zp [])
 .br (okR r11) (.leaf (0,[(.b (gB r11 0))])) .fail) (.leaf (0,[(.b false)]))) .fail) (.leaf (0,[(.b false)]))) (.leaf (0,[(.b false)]))) .fail) .fail)) .fail) .fail) .fail)))) (.br (not (beq (gB r3 0) (ieq (qf (gR r4 0)) 0))) (.leaf (0,[(.b false)])) (.br (ilt 3 (qf (gR r4 0))) (.leaf (0,[(.b false)])) (let r5:TR:=(qA [(.r x2)])
 .br (okR r5) (let r6:TR:=(qh zw [(.b (gB r3 0)),(.r (gR r4 0)),(.i (qf (gR r5 0))),(.i 0),(.r x0),(.r x1),(.i x4),(.i x5),(.r x3),(.r (gR r5 0))])
 .br (okR r6) (let r7:TR:=(vR [(.r (gR r6 2)),(.r (gR r6 3)),(.r (gR r6 5)),(.r (gR r6 4))])
 .br (okR r7) (.br (not (gB r7 0)) (let r8:TR:=(zp [])
 .br (okR r8) (.leaf (0,[(.b (gB r8 0))])) .fail) (let r8:TR:=(qv [(.r (gR r6 2)),(.r (gR r6 3)),(.r (gR r6 5)),(.r (gR r6 4))])
 .br (okR r8) (let r9:TR:=(z7 [(.r (gR r6 2)),(.r (gR r6 3)),(.r (gR r6 5)),(.r (gR r6 4))])
 .br (okR r9) (.br (ieq (qj .i64 (gI r8 4) (gI r9 1)) 0) (.br (beq (gB r8 0) (gB r6 0)) (let r10:TR:=(qK [(.r (gR r6 1)),(.r (gR r9 0))])
 .br (okR r10) (.br (gB r10 0) (let r11:TR:=(zp [])
 .br (okR r11) (.leaf (0,[(.b (gB r11 0))])) .fail) (.leaf (0,[(.b false)]))) .fail) (.leaf (0,[(.b false)]))) (.leaf (0,[(.b false)]))) .fail) .fail)) .fail) .fail) .fail))))) .fail) .fail) .fail)) .fail)) .fail):=by kernel_rfl
theorem qmI(x0:R)(x1:Int)(x2:Int)(x3:Int):q1K [.r x0,.i x1,.i x2,.i x3]=(let r0:TR:=(zI [(.r x0)])
 .br (okR r0) (.br (ine (gI r0 0) 0) (.leaf (0,[(.b false),(.i (gI r0 0))])) (.br (ilt x1 0) (.leaf (0,[(.b false),(.i 2)])) (.br (ile (qf x0) x1) (.leaf (0,[(.b false),(.i 2)])) (.br (ilt x2 0) (.leaf (0,[(.b false),(.i 2)])) (.br (ile (qf x0) x2) (.leaf (0,[(.b false),(.i 2)])) (.br (ilt x2 x1) (.leaf (0,[(.b false),(.i 9)])) (.br (ilt x3 (-1)) (.leaf (0,[(.b false),(.i 1)])) (.br (ilt 1 x3) (.leaf (0,[(.b false),(.i 1)])) (let r1:TR:=(qQ [(.r x0),(.i x1),(.i x2),(.i x3),(.i 0)])
 .br (okR r1) (.leaf (0,[(.b (gB r1 0)),(.i (gI r1 1))])) .fail))))))))) .fail):=by kernel_rfl
theorem q3s(y0:R)(y1:R)(y2:Int)(y3:Int)(y4:R)(y5:R)(y6:R)(y7:R)(y8:R)(y9:R)(y10:R)(y11:R):zU [.r y0,.r y1,.i y2,.i y3,.r y4,.r y5,.r y6,.r y7,.r y8,.r y9,.r y10,.r y11]=(.br (ilt y3 y2) (.br (inb y3 (qf y1)) (.br (ilt (cI y1 y3 0) 0) (.leaf (2,[(.b false)])) (.br (ile (qf y4) (cI y1 y3 0)) (.leaf (2,[(.b false)])) (.br (inb (cI y1 y3 0) (qf y4)) (.br (ile ((qf y8)+(qf [[(.i (cI y4 (cI y1 y3 0) 0)),(.i (cI y4 (cI y1 y3 0) 1)),(.i (cI y4 (cI y1 y3 0) 2)),(.i (cI y4 (cI y1 y3 0) 3)),(.i (cI y4 (cI y1 y3 0) 4)),(.i (cI y4 (cI y1 y3 0) 5)),(.b (cB y4 (cI y1 y3 0) 6))]])) 2513169434916) (.br (inb (cI y1 y3 0) (qf y5)) (.br (ile ((qf y9)+(qf [[(.i (cI y5 (cI y1 y3 0) 0)),(.i (cI y5 (cI y1 y3 0) 1)),(.i (cI y5 (cI y1 y3 0) 2)),(.i (cI y5 (cI y1 y3 0) 3)),(.i (cI y5 (cI y1 y3 0) 4)),(.i (cI y5 (cI y1 y3 0) 5)),(.b (cB y5 (cI y1 y3 0) 6))]])) 2513169434916) (.br (inb (cI y1 y3 0) (qf y6)) (.br (ile ((qf y10)+(qf [[(.i (cI y6 (cI y1 y3 0) 0)),(.i (cI y6 (cI y1 y3 0) 1)),(.i (cI y6 (cI y1 y3 0) 2))]])) 5864062014805) (.br (inb (cI y1 y3 0) (qf y7)) (.br (ile ((qf y11)+(qf [[(.i (cI y7 (cI y1 y3 0) 0)),(.i (cI y7 (cI y1 y3 0) 1)),(.i (cI y7 (cI y1 y3 0) 2))]])) 5864062014805) (.leaf (0,[(.r y0),(.r y1),(.i y2),(.i (qj .i64 y3 1)),(.r y4),(.r y5),(.r y6),(.r y7),(.r (q3z y8 [[(.i (cI y4 (cI y1 y3 0) 0)),(.i (cI y4 (cI y1 y3 0) 1)),(.i (cI y4 (cI y1 y3 0) 2)),(.i (cI y4 (cI y1 y3 0) 3)),(.i (cI y4 (cI y1 y3 0) 4)),(.i (cI y4 (cI y1 y3 0) 5)),(.b (cB y4 (cI y1 y3 0) 6))]])),(.r (q3z y9 [[(.i (cI y5 (cI y1 y3 0) 0)),(.i (cI y5 (cI y1 y3 0) 1)),(.i (cI y5 (cI y1 y3 0) 2)),(.i (cI y5 (cI y1 y3 0) 3)),(.i (cI y5 (cI y1 y3 0) 4)),(.i (cI y5 (cI y1 y3 0) 5)),(.b (cB y5 (cI y1 y3 0) 6))]])),(.r (q3z y10 [[(.i (cI y6 (cI y1 y3 0) 0)),(.i (cI y6 (cI y1 y3 0) 1)),(.i (cI y6 (cI y1 y3 0) 2))]])),(.r (q3z y11 [[(.i (cI y7 (cI y1 y3 0) 0)),(.i (cI y7 (cI y1 y3 0) 1)),(.i (cI y7 (cI y1 y3 0) 2))]]))])) .fail) .fail) .fail) .fail) .fail) .fail) .fail) .fail))) .fail) (.leaf (1,[(.r y0),(.r y8),(.r y9),(.r y10),(.r y11)]))):=by kernel_rfl
theorem qdK(x0:R)(x1:R)(x2:R)(x3:R):ji [.r x0,.r x1,.r x2,.r x3]=(let r0:TR:=(vR [(.r x0),(.r x1),(.r x2),(.r x3)])
 .br (okR r0) (.br (not (gB r0 0)) (let r1:TR:=(zp [])
 .br (okR r1) (.leaf (0,[(.b (gB r1 0))])) .fail) (let r1:TR:=(qv [(.r x0),(.r x1),(.r x2),(.r x3)])
 .br (okR r1) (let r2:TR:=(z7 [(.r x0),(.r x1),(.r x2),(.r x3)])
 .br (okR r2) (.br (ine (qj .i64 (gI r1 4) (gI r2 1)) 0) (.leaf (0,[(.b false)])) (.br (gB r1 0) (let r3:TR:=(q30 [(.r x0),(.r x1),(.r x2),(.r x3)])
 .br (okR r3) (let r4:TR:=(q1K [(.r (gR r3 0)),(.i (gI r1 1)),(.i (gI r1 2)),(.i (gI r1 3))])
 .br (okR r4) (.br (ieq (gI r4 1) 0) (.br (gB r4 0) (let r5:TR:=(zp [])
 .br (okR r5) (.leaf (0,[(.b (gB r5 0))])) .fail) (.leaf (0,[(.b false)]))) (.leaf (0,[(.b false)]))) .fail) .fail) (let r3:TR:=(qh zU [(.r (gR r2 0)),(.r (gR r2 0)),(.i (qf (gR r2 0))),(.i 0),(.r x0),(.r x1),(.r x2),(.r x3),(.r []),(.r []),(.r []),(.r [])])
 .br (okR r3) (.br (jIs r3 0) (let r4:TR:=(qv [(.r (gR r3 1)),(.r (gR r3 2)),(.r (gR r3 3)),(.r (gR r3 4))])
 .br (okR r4) (.br (ieq (gI r4 4) 0) (.br (ilt 0 (qf (gR r3 0))) (.br (not (gB r4 0)) (let r5:TR:=(zp [])
 .br (okR r5) (.leaf (0,[(.b (gB r5 0))])) .fail) (.leaf (0,[(.b false)]))) (.leaf (0,[(.b false)]))) (.leaf (0,[(.b false)]))) .fail) (.leaf (0,[(.b (gB r3 0))]))) .fail))) .fail) .fail)) .fail):=by kernel_rfl
end Go.Eng

namespace Go.Eng
mutual
def qjS{H:Type}:DataW H→List U
 | .lit (.bool b)=>[.b b]
 | .lit (.int _ n)=>[.i n]
 | .lit (.string s)=>[.s s]
 | .nil=>[.l []]
 | .slice es _=>[.l (qtF es)]
 | .agg ps=>qxu ps
 | _=>[.i 0]
def qxu{H:Type}:List (DataW H)→List U
 | []=>[]
 | d::l=>qjS d++qxu l
def qtF{H:Type}:List (DataW H)→List (List U)
 | []=>[]
 | d::l=>qjS d::qtF l
end
theorem qil{H:Type}:∀l:List (DataW H),qtF l=l.map qjS
 | []=>rfl
 | d::l=>by simp[qtF,qil l]
inductive UFit:Sh→U→Prop
 | int (k:IntKind) (n:Int) (h0:k.min≤n) (h1:n≤k.max):UFit (.int k) (.i n)
 | bool (b:Bool):UFit .bool (.b b)
 | str (s:List UInt8) (h:s.length≤maxLen):UFit .str (.s s)
 | sl (row:List Sh) (l:R) (h:l.length≤maxLen) (hl:∀r,r∈l→r.length=row.length) (hf:∀(r:List U) (j:Nat) (s:Sh) (u:U),r∈l→row[j]?=some s→r[j]?=some u→UFit s u):UFit (.sl row) (.l l)
inductive CR (W:World) (M:Nat→Prop):List Sh→List U→List Value→Prop
 | nil:CR W M [] [] []
 | cons {s:Sh} {u:U} {v:Value} {sh:List Sh} {us:List U} {vs:List Value} (h:RepU W M s u v) (f:UFit s u) (t:CR W M sh us vs):CR W M (s::sh) (u::us) (v::vs)
theorem CR.append{W:World}{M:Nat→Prop}{a a':List Sh}{b b':List U}{c c':List Value}(h:CR W M a b c)(k:CR W M a' b' c'):CR W M (a++a') (b++b') (c++c'):=by
 induction h with
 | nil=>exact k
 | cons h f t ih=>exact .cons h f ih
theorem CR.len{W:World}{M:Nat→Prop}{a:List Sh}{b:List U}{c:List Value}(h:CR W M a b c):b.length=a.length∧c.length=a.length:=by
 induction h with
 | nil=>exact⟨rfl,rfl⟩
 | cons h f t ih=>simp[ih.1,ih.2]
theorem CR.get{W:World}{M:Nat→Prop}{a:List Sh}{b:List U}{c:List Value}(h:CR W M a b c):∀(j:Nat) (s:Sh),a[j]?=some s→∃u v,b[j]?=some u∧c[j]?=some v∧RepU W M s u v∧UFit s u:=by
 induction h with
 | nil=>intro j s hj;simp at hj
 | cons h f t ih=>
  intro j s hj
  cases j with
  | zero=>simp at hj;subst hj;exact⟨_,_,rfl,rfl,h,f⟩
  | succ j=>simpa using ih j s (by simpa using hj)
def qqf:Nat→List (Nat×TypeId×Nat)→Bool
 | _,[]=>true
 | o,f::l=>Nat.beq f.1 o&&qqf (o+f.2.2) l
def qxO:List (Nat×TypeId×Nat)→Nat
 | []=>0
 | f::l=>f.2.2+qxO l
def qtM(x:TI):Bool:=match x.d with
 | .struct fs=>qqf 0 fs&&Nat.beq (qxO fs) x.size
 | .array n _ es=>Nat.beq (n*es) x.size
 | .slice _ es=>Nat.blt 0 es
 | _=>true
theorem qB7{E:Env}(h:E.tt.all (fun x=>qtM x.2)=true)(t:TypeId):qtM (E.ty t)=true:=by
 unfold Env.ty
 cases hf:E.tt.find? fun x=>x.1==t with
 | none=>rfl
 | some x=>exact List.all_eq_true.1 h x (List.mem_of_find?_eq_some hf)
section
variable {H:Type} {enc:TypeId×Value→H} {P:Program} {W:World} {base:Nat} {sp:Nat→Bool} {held:Bool} {E:Env}
theorem qpB{M:Nat→Prop}{fuel n:Nat}{cs:List Value}(ih:∀t cs d ps sh,E.shape n t=some sh→DataW.trod enc P W base sp held fuel t cs=some (d,ps)→CR W M sh (qjS d) cs) :
  ∀(fs:List (Nat×TypeId×Nat)) (o:Nat) (xs:List (DataW H×List MemPlace)) (shs:List (List Sh)),qqf o fs=true→o+qxO fs=cs.length→fs.mapM (fun f=>E.shape n f.2.1)=some shs →
   xs.length=fs.length→(∀(i:Nat) (f:Nat×TypeId×Nat),fs[i]?=some f→DataW.trod enc P W base sp held fuel f.2.1 ((cs.drop f.1).take f.2.2)=xs[i]?) →
   CR W M shs.flatten (qxu (xs.map (·.1))) (cs.drop o)
 | [],o,xs,shs,_,hs,hsh,hl,_=>by
  simp[qxO] at hs hsh hl
  subst hsh hl
  have:cs.drop o=[]:=List.drop_eq_nil_of_le (by omega)
  rw[this]
  exact .nil
 | f::fs,o,xs,shs,hlay,hs,hsh,hl,hx=>by
  simp only[qqf,Bool.and_eq_true] at hlay
  obtain⟨h1,h2⟩:=hlay
  have ho:f.1=o:=Nat.eq_of_beq_eq_true h1
  simp only[qxO] at hs
  rw[List.mapM_cons] at hsh
  cases hsf:E.shape n f.2.1 with
  | none=>rw[hsf] at hsh;cases hsh
  | some shf=>
   cases hrest:fs.mapM (fun f=>E.shape n f.2.1) with
   | none=>rw[hsf,hrest] at hsh;cases hsh
   | some shr=>
    rw[hsf,hrest] at hsh
    cases hsh
    cases xs with
    | nil=>simp at hl
    | cons x xs=>
     have h0:=hx 0 f rfl
     simp only[List.getElem?_cons_zero] at h0
     have c1:=ih f.2.1 _ x.1 x.2 shf hsf h0
     rw[ho] at c1
     have c2:=qpB (cs:=cs) (M:=M) (fuel:=fuel) ih fs (o+f.2.2) xs shr h2 (by omega) hrest (by simpa using hl) fun i g hg=>by
      have:=hx (i+1) g (by simpa using hg)
      simpa using this
     have hsplit:cs.drop o=(cs.drop o).take f.2.2++cs.drop (o+f.2.2):=by
      rw[←List.drop_drop,List.take_append_drop]
     rw[hsplit]
     simp only[List.flatten_cons,List.map_cons,qxu]
     exact c1.append c2
theorem qsB{M:Nat→Prop}{fuel n es:Nat}{e:TypeId}{cs:List Value}{she:List Sh}(he:E.shape n e=some she)
  (ih:∀t cs d ps sh,E.shape n t=some sh→DataW.trod enc P W base sp held fuel t cs=some (d,ps)→CR W M sh (qjS d) cs) :
  ∀(m o:Nat) (xs:List (DataW H×List MemPlace)),(o+m)*es=cs.length→xs.length=m→(∀i,i<m→DataW.trod enc P W base sp held fuel e ((cs.drop ((o+i)*es)).take es)=xs[i]?) →
   CR W M (List.replicate m she).flatten (qxu (xs.map (·.1))) (cs.drop (o*es))
 | 0,o,xs,hs,hl,_=>by
  simp at hl hs;subst hl
  have:cs.drop (o*es)=[]:=List.drop_eq_nil_of_le (by omega)
  rw[this]
  exact .nil
 | m+1,o,xs,hs,hl,hx=>by
  cases xs with
  | nil=>simp at hl
  | cons x xs=>
   have h0:=hx 0 (by omega)
   simp only[List.getElem?_cons_zero,Nat.add_zero] at h0
   have c1:=ih e _ x.1 x.2 she he h0
   have c2:=qsB (cs:=cs) he ih m (o+1) xs (by rw[←hs];congr 1;omega) (by simpa using hl) fun i hi=>by
    have:=hx (i+1) (by omega)
    rw[show o+(i+1)=o+1+i by omega] at this
    simpa using this
   have hsplit:cs.drop (o*es)=(cs.drop (o*es)).take es++cs.drop ((o+1)*es):=by
    rw[Nat.add_mul,Nat.one_mul,←List.drop_drop,List.take_append_drop]
   rw[hsplit]
   simp only[List.replicate_succ,List.flatten_cons,List.map_cons,qxu]
   exact c1.append c2
theorem qvC(hE:E.tok P)(hlay:E.tt.all (fun x=>qtM x.2)=true):∀(fuel n:Nat) (t:TypeId) (cs:List Value) (d:DataW H) (ps:List MemPlace) (sh:List Sh),E.shape n t=some sh →
  DataW.trod enc P W base sp held fuel t cs=some (d,ps)→CR W (fun b=>b<W.heap.size) sh (qjS d) cs:=by
 intro fuel
 induction fuel with
 | zero=>intro n t cs d ps sh _ h;simp[DataW.trod] at h
 | succ fuel ih=>
  intro n t cs d ps sh hsh h
  cases n with
  | zero=>simp[Env.shape] at hsh
  | succ n=>
   simp only[Env.shape] at hsh
   have hl:=qB7 hlay t
   unfold qtM at hl
   cases hd:(E.ty t).d<;>rw[hd] at hsh hl<;>simp only at hsh hl<;>try (cases hsh)
   ·
    unfold DataW.trod at h
    rw[qog hE hd] at h
    split at h<;>simp_all
    obtain⟨rfl,_⟩:=h
    exact .cons (.bool (.b _)) (.bool _) .nil
   ·
    rename_i k
    unfold DataW.trod at h
    rw[qnH hE hd] at h
    split at h<;>simp_all
    obtain⟨⟨rfl,hw⟩,rfl,_⟩:=h
    simp[Lit.wf] at hw
    exact .cons (.int _ (.i _)) (.int _ _ hw.1 hw.2) .nil
   ·
    unfold DataW.trod at h
    rw[qhf hE hd] at h
    split at h<;>simp_all
    rename_i s
    obtain⟨hm,rfl,_⟩:=h
    refine .cons ?_ (.str _ (by simpa using hm)) .nil
    have:=RepU.str (w:=W) (M:=fun b=>b<W.heap.size) (.s s.data.toList)
    simpa[U.toS] using this
   ·
    rename_i e es
    obtain⟨ht,rfl⟩:=q1e hE hd
    cases he:E.shape n e with
    | none=>rw[he] at hsh;cases hsh
    | some she=>
     rw[he] at hsh
     cases hsh
     have hpos:0<P.cellsOf e:=by simpa[Nat.blt_eq] using hl
     rcases DataW.trod_slice ht h with⟨rfl,hx⟩|⟨a,len,cap,elems,rest,k,hk,rfl,hx,hb,hlc,hcm,hlen,hel,_,_⟩
     ·cases hx
      exact .cons (.slnil _ _ rfl) (.sl _ _ (by simp[maxLen]) (fun r hr=>by cases hr) (fun r j s u hr=>by cases hr)) .nil
     ·cases hx
      cases hk
      have hrow:∀(i:Nat) (hi:i<len),∃cs',W.cells? base (a.add (i*P.cellsOf e)) (P.cellsOf e)=some cs'∧CR W (fun b=>b<W.heap.size) she (qjS (elems[i]'(by omega)).1) cs':=by
       intro i hi
       have h0:=hel i hi
       rw[List.getElem?_eq_getElem (by omega)] at h0
       obtain⟨cs',g1,g2⟩:=Option.bind_eq_some_iff.1 h0
       exact⟨cs',g1,ih n e cs' _ _ she he g2⟩
      have hget:∀(r:Nat) (hr:r<len),(((elems.map (·.1)).map qjS).getD r []:List U)=qjS (elems[r]'(by omega)).1:=by
       intro r hr
       simp[List.getD_eq_getElem?_getD,hlen,hr]
      have hcell:∀(r j:Nat) (s:Sh) (hr:r<len),she[j]?=some s→∃v,W.cell? ⟨a.block,a.off+r*she.length+j,none⟩=some v∧RepU W (fun b=>b<W.heap.size) s (wJ (qtF (elems.map (·.1))) r j) v∧UFit s ((qjS (elems[r]'(by omega)).1).getD j (.i 0))∧a.spot=none∧a.block<W.heap.size:=by
       intro r j s hr hj
       obtain⟨cs',g1,g2⟩:=hrow r hr
       obtain⟨_,g4,g5⟩:=World.cells?_some g1
       obtain⟨q1,q2⟩:=g2.len
       obtain⟨u,v,e1,e2,e3,e4⟩:=g2.get j s hj
       have hlen:she.length=P.cellsOf e:=by rw[←q2,g4]
       have hjl:j<P.cellsOf e:=by rw[←hlen];exact qp hj
       have hc:=(g5 j hjl).trans e2
       have h00:=g5 0 hpos
       obtain⟨cs0,z1,z2⟩:=hrow 0 (by omega)
       obtain⟨_,z4,z5⟩:=World.cells?_some z1
       have hz:=z5 0 hpos
       obtain⟨v0,hv0⟩:∃v0,cs0[0]?=some v0:=⟨cs0[0],List.getElem?_eq_getElem (by omega)⟩
       rw[hv0] at hz
       simp only[Nat.zero_mul,Addr.add,if_true] at hz
       have hspot:=World.cell?_spot hz
       refine⟨v,?_,?_,?_,hspot,World.block_lt_of_cell? _ _ hz⟩
       ·rw[←hc,Addr.add_of hspot,Addr.add_lit,hlen]
       ·have:wJ (qtF (elems.map (·.1))) r j=u:=by
         rw[qil]
         unfold wJ
         rw[Int.toNat_natCast,hget r hr]
         simp[List.getD_eq_getElem?_getD,e1]
        rw[this];exact e3
       ·simp[List.getD_eq_getElem?_getD,e1];exact e4
      have hrl:(qtF (elems.map (·.1))).length=len:=by rw[qil];simp[hlen]
      have hsh0:0<len→0<she.length:=by
       intro hl0
       obtain⟨cs',g1,g2⟩:=hrow 0 hl0
       obtain⟨_,g4,_⟩:=World.cells?_some g1
       rw[←g2.len.2,g4];exact hpos
      refine .cons ?_ (.sl _ _ (by rw[hrl];omega) ?_ ?_) .nil
      ·have hR:=qds (w:=W) (M:=fun b=>b<W.heap.size) (row:=she) (l:=qtF (elems.map (·.1))) (v:=.slice (some a) len cap) (.inr ⟨a,cap,by rw[hrl],fun h0=>by
        rw[hrl] at h0
        obtain⟨_,_,_,_,h4,_⟩:=hcell 0 0 she[0] h0 (List.getElem?_eq_getElem (hsh0 h0))
        exact h4,by rw[hrl];exact hlc,fun r j hj hr=>by
        rw[hrl] at hr
        obtain⟨v,h1,h2,_,_,h5⟩:=hcell r j she[j] hr (List.getElem?_eq_getElem hj)
        exact⟨h5,v,h1,h2⟩⟩)
       exact hR
      ·intro r hr
       rw[qil] at hr
       obtain⟨i,hi⟩:=List.getElem?_of_mem hr
       have hil:i<len:=by have:=qp hi;simpa[hlen] using this
       have:r=qjS (elems[i]'(by omega)).1:=by
        rw[←hget i hil,List.getD_eq_getElem?_getD,hi];rfl
       obtain⟨cs',g1,g2⟩:=hrow i hil
       rw[this];exact g2.len.1
      ·intro r j s u hr hs hu
       rw[qil] at hr
       obtain⟨i,hi⟩:=List.getElem?_of_mem hr
       have hil:i<len:=by have:=qp hi;simpa[hlen] using this
       have:r=qjS (elems[i]'(by omega)).1:=by
        rw[←hget i hil,List.getD_eq_getElem?_getD,hi];rfl
       subst this
       obtain⟨_,_,_,h3,_⟩:=hcell i j s hil hs
       simpa[List.getD_eq_getElem?_getD,hu] using h3
   ·
    rename_i m e es
    obtain⟨ht,rfl⟩:=qaq hE hd
    cases he:E.shape n e with
    | none=>rw[he] at hsh;cases hsh
    | some she=>
     rw[he] at hsh
     cases hsh
     obtain⟨xs,m0,hf,hx,hcl,hxl,hel⟩:=DataW.trod_array ht h
     cases hf
     cases hx
     have hsz:m*P.cellsOf e=cs.length:=by
      rw[hcl]
      have h1:=Nat.eq_of_beq_eq_true hl
      obtain⟨_,i,dd,h2,_,_,h4,_⟩:=q1c hE (t:=t) (by rw[hd];rfl)
      rw[h1,h4]
      unfold Program.cellsOf
      rw[h2];rfl
     have:=qsB (cs:=cs) he (fun t cs d ps sh h1 h2=>ih n t cs d ps sh h1 h2) m 0 xs (by simpa using hsz) hxl (fun i hi=>by simpa using hel i hi)
     simpa[qjS] using this
   ·
    rename_i fs
    obtain⟨fields,ht,rfl⟩:=q7o hE hd
    cases hm:(fields.toList.map fun f=>(f.offset,f.type,P.cellsOf f.type)).mapM fun f=>E.shape n f.2.1 with
    | none=>rw[hm] at hsh;cases hsh
    | some shs=>
     rw[hm] at hsh
     cases hsh
     obtain⟨xs,m0,hf,hx,hcl,hxl,hel⟩:=DataW.trod_struct ht h
     cases hf
     cases hx
     simp only[Bool.and_eq_true] at hl
     have hsz:qxO (fields.toList.map fun f=>(f.offset,f.type,P.cellsOf f.type))=cs.length:=by
      rw[hcl]
      have h1:=Nat.eq_of_beq_eq_true hl.2
      obtain⟨_,i,dd,h2,_,_,h4,_⟩:=q1c hE (t:=t) (by rw[hd];rfl)
      rw[h1,h4]
      unfold Program.cellsOf
      rw[h2];rfl
     have:=qpB (cs:=cs) (fun t cs d ps sh h1 h2=>ih n t cs d ps sh h1 h2) _ 0 xs shs hl.1 (by simpa using hsz) hm (by simpa using hxl) (fun i f hf=>by
      rw[List.getElem?_map] at hf
      cases hfi:fields.toList[i]? with
      | none=>rw[hfi] at hf;cases hf
      | some g=>
       rw[hfi] at hf
       cases hf
       exact hel i g (by simpa using hfi))
     simpa[qjS] using this
end
end Go.Eng

namespace Go.Eng
open Go.RowKit
inductive UFits:List Sh→List U→Prop
 | nil:UFits [] []
 | cons {s:Sh} {u:U} {sh:List Sh} {us:List U} (h:UFit s u) (t:UFits sh us):UFits (s::sh) (u::us)
theorem CR.fits{W:World}{M:Nat→Prop}{a:List Sh}{b:List U}{c:List Value}(h:CR W M a b c):UFits a b:=by
 induction h with
 | nil=>exact .nil
 | cons h f t ih=>exact .cons f ih
def q89:List Sh→List U→List AV
 | .int k::sh,u::us=>.int k u.toI::q89 sh us
 | .bool::sh,u::us=>.bool u.toB::q89 sh us
 | .str::sh,u::us=>.str u.toS::q89 sh us
 | .sl row::sh,u::us=>.imm row u.toR::q89 sh us
 | _,_=>[]
theorem qwT{X:Ctx}{sh:List Sh}{us:List U}{vs:List Value}(h:CR X.w X.M sh us vs):RepL X (q89 sh us) vs:=by
 induction h with
 | nil=>exact .nil
 | cons h f t ih=>
  rename_i s u v sh us vs
  cases s with
  | int k=>cases h;exact .cons (.int _ _) ih
  | bool=>cases h;exact .cons (.bool _) ih
  | str=>cases h;exact .cons (.str _) ih
  | sl row=>exact .cons (.imm _ _ _ (qiw h)) ih
def qoI(agg:Bool)(sh:List Sh)(us:List U):AV:=match agg with
 | true=>.agg (q89 sh us)
 | false=>(q89 sh us).headD .undef
section
variable {H:Type} {enc:TypeId×Value→H} {P:Program} {W:World} {base:Nat} {sp:Nat→Bool} {held:Bool} {E:Env}
theorem qnX(hE:E.tok P)(hlay:E.tt.all (fun x=>qtM x.2)=true){X:Ctx}(hw:X.w=W)(hM:X.M=fun b=>b<W.heap.size){r:Reach}{b0:Nat}{n:Nat}{t:TypeId}{v:Value}{d:DataW H}{ps:List MemPlace}{sh:List Sh}
  (hsh:E.shape n t=some sh) (hv:Value.okWide P W r b0 t v) (hd:DataW.Trod enc P W base sp held t v d ps):UFits sh (qjS d)∧Rep X (qoI (E.ty t).d.isAgg sh (qjS d)) v:=by
 obtain⟨fuel,hf⟩:=hd
 have hc:=qvC hE hlay fuel n t _ d ps sh hsh hf
 refine⟨hc.fits,?_⟩
 have hr:RepL X (q89 sh (qjS d)) v.cells.toList:=qwT (by rw[hw,hM];exact hc)
 have hone:∀(_:(E.ty t).d.isAgg=false),v.cells=#[v]→Rep X (qoI (E.ty t).d.isAgg sh (qjS d)) v:=by
  intro ha hcell
  rw[ha]
  rw[hcell] at hr
  simp only[qoI]
  generalize q89 sh (qjS d)=l at hr
  cases hr with
  | cons h1 h2=>simpa using h1
 unfold Value.okWide at hv
 cases n with
 | zero=>simp[Env.shape] at hsh
 | succ n=>
  simp only[Env.shape] at hsh
  cases hd:(E.ty t).d<;>rw[hd] at hsh hone<;>simp only at hsh<;>try (cases hsh)
  ·rw[qog hE hd] at hv
   refine hone rfl ?_
   cases v<;>simp[Cell.okWide,qog hE hd,Cell.ok] at hv<;>rfl
  ·rw[qnH hE hd] at hv
   refine hone rfl ?_
   cases v<;>simp[Cell.okWide,qnH hE hd,Cell.ok] at hv<;>rfl
  ·rw[qhf hE hd] at hv
   refine hone rfl ?_
   cases v<;>simp[Cell.okWide,qhf hE hd,Cell.ok] at hv<;>rfl
  ·rw[(q1e hE hd).1] at hv
   refine hone rfl ?_
   cases v<;>simp[Cell.okWide,(q1e hE hd).1,Cell.ok] at hv<;>rfl
  ·rw[(qaq hE hd).1] at hv
   obtain⟨cs,rfl,_,_⟩:=hv
   simp only[TD.isAgg,qoI]
   exact .agg _ _ (by simpa[Value.cells] using hr)
  ·obtain⟨fields,ht,_⟩:=q7o hE hd
   rw[ht] at hv
   obtain⟨cs,rfl,_,_⟩:=hv
   simp only[TD.isAgg,qoI]
   exact .agg _ _ (by simpa[Value.cells] using hr)
end
def qtb(W:World):Ctx:={ σ:=fun _=>none,h:=[],w:=W,M:=fun b=>b<W.heap.size }
def qwN(W:World):Base:={ w0:=W,imps:=[],M0:=fun b=>b<W.heap.size,fs:=[] }
theorem qEa(W:World):HSim (qwN W) (qtb W):=by
 have hno:∀b n,¬(qtb W).own b n:=by
  intro b n ⟨h,_⟩;cases h
 refine⟨fun b k h=>?_,fun b b' n h=>absurd h (hno b n),fun b n h=>absurd h (hno b n),fun n h=>h,fun n h=>h,fun n h=>.inl h,rfl,rfl,rfl,Nat.le_refl _,fun _ _ _=>rfl,fun b h=>?_,fun b h=>?_,fun b n h=>absurd h (hno b n),fun p hp=>by cases hp⟩
 ·have:([]:List Blk)[b]?=some k:=h
  simp at this
 ·exact absurd h (by simp[qwN])
 ·exact absurd h (by simp[qwN])
theorem qD1(W:World):Entry (qwN W) (qtb W):=⟨rfl,rfl,fun _ h=>h⟩
theorem qtI{P:Program}{gl:List (Nat×AV)}{f:FuncId}{G:q1h}(hG:zb P gl f G){W:World}(hgl:qaI gl (qtb W)){args:List AV}{vargs:List Value}(ha:RepL (qtb W) args vargs)
  (h:(G args []).run=some (.bool true,[])):Calls P f vargs.toArray W fun e W'=>e=.returned (.bool true)∧Below W.heap.size W W':=by
 refine(hG.2 (qwN W) (qtb W) args vargs _ (qEa W) (qD1 W) hgl ha h).mono fun e W' ⟨v,X',e1,e2,e3,e4,e5,_⟩=>?_
 subst e2
 refine⟨?_,e5.os,e5.tape,e5.output,e5.size,fun k hk=>e5.frame k hk (by simp[qwN])⟩
 rw[e1]
 cases e3;rfl
theorem qpT{i:FIn}{outs:List FOut}{T:List PV→TR}{args:List AV}{ps:List PV}(ho:outs=[{ res:=.bool,h:=[] }])(hi:i.take args []=some ps)(hT:(T ps).run=some (0,[.b true])) :
  (q9 i outs T args []).run=some (.bool true,[]):=by
 subst ho
 unfold q9
 rw[hi]
 simp only[Tree.run,okR,hT,Option.isSome_some]
 simp only[qCI,FOut.kinds,AP.kinds,BP.kindsL,List.append_nil,qlO,gB,pR,hT,List.getD_cons_zero,PV.toB,FOut.make,AP.make,BP.makeL,Tree.run]
theorem qrh{P:Program}{W:World}{E:Env}(hE:E.tok P)(hlay:E.tt.all (fun x=>qtM x.2)=true){name:String}{g n:Nat}{t:TypeId}{d:DataW Unit}{sh:List Sh}
  (hg:P.globalNamed name=some g) (hty:(P.globals[g]?).map (·.type)=some t) (hsh:E.shape n t=some sh) {ds:List (String×DataW Unit)} (h:laidMet P ds W) (hm:(name,d)∈ds) :
  qA9 (qtb W) (g,.eptr sh [qjS d] 0 0):=by
 obtain⟨ps,hl,_⟩:=h
 have key:∀(ds:List (String×DataW Unit)) (ps:List MemPlace),DataW.LaidVars P W ds ps→(name,d)∈ds→∃cs fuel p,W.var? P name=some cs∧DataW.trod (fun _=>()) P W 0 (fun _=>true) false fuel t cs.toList=some (d,p):=by
  intro ds
  induction ds with
  | nil=>intro ps _ h;cases h
  | cons x ds ih=>
   intro ps hl hm
   obtain⟨nm,dd⟩:=x
   obtain⟨g',t',cs,fuel,p,q,h1,h2,h3,h4,h5,_⟩:=hl
   rcases List.mem_cons.1 hm with he|hm
   ·cases he
    obtain rfl:=Option.some.inj (hg.symm.trans h1)
    obtain rfl:=Option.some.inj (hty.symm.trans h2)
    exact⟨cs,fuel,p,h3,h4⟩
   ·exact ih q h5 hm
 obtain⟨cs,fuel,p,h3,h4⟩:=key ds ps hl hm
 have hc:=qvC hE hlay fuel n t _ d p sh hsh h4
 have hheap:∃T fr,W.heap[g]?=some (.cells cs T fr):=by
  unfold World.var? at h3
  rw[hg] at h3
  simp only[Option.bind_some] at h3
  split at h3
  ·rename_i cs' T fr he
   cases h3
   exact⟨T,fr,he⟩
  ·cases h3
 suffices hs:Rows (qtb W).w (qtb W).M sh [qjS d] ⟨g,0,none⟩ by
  refine⟨?_,?_,?_⟩
  ·have:=Rep.eptr (X:=qtb W) sh [qjS d] 0 0 ⟨g,0,none⟩ rfl (Int.le_refl _) (by simp) hs
   simpa using this
  ·obtain⟨T,fr,he⟩:=hheap
   exact(Array.getElem?_eq_some_iff.1 he).1
  ·have:=World.var?_cell hg h3 sh.length
   show W.cell? ⟨g,sh.length*1,none⟩=none
   rw[Nat.mul_one,this,Array.getElem?_eq_none]
   rw[←Array.length_toList,hc.len.2]
   exact Nat.le_refl _
 intro r j hj hr
 have hr0:r=0:=by simpa using hr
 subst hr0
 obtain⟨u,v,e1,e2,e3,_⟩:=hc.get j sh[j] (List.getElem?_eq_getElem hj)
 have hcell:W.cell? ⟨g,j,none⟩=some v:=by
  have:=World.var?_cell hg h3 j
  rw[this];simpa using e2
 refine⟨World.block_lt_of_cell? W ⟨g,j,none⟩ hcell,v,?_,?_⟩
 ·rw[Nat.zero_mul,Nat.add_zero,Nat.zero_add];exact hcell
 have:wJ [qjS d] (0:Nat) j=u:=by simp[wJ,List.getD_eq_getElem?_getD,e1]
 rw[this];exact e3
theorem UFits.int{k:IntKind}{sh:List Sh}{us:List U}(h:UFits (.int k::sh) us):∃n us',us=.i n::us'∧k.min≤n∧n≤k.max∧UFits sh us':=by
 cases h with
 | cons h t=>cases h with
  | int k n h0 h1=>exact⟨n,_,rfl,h0,h1,t⟩
theorem UFits.bool{sh:List Sh}{us:List U}(h:UFits (.bool::sh) us):∃b us',us=.b b::us'∧UFits sh us':=by
 cases h with
 | cons h t=>cases h with
  | bool b=>exact⟨b,_,rfl,t⟩
theorem UFits.str{sh:List Sh}{us:List U}(h:UFits (.str::sh) us):∃s us',us=.s s::us'∧s.length≤maxLen∧UFits sh us':=by
 cases h with
 | cons h t=>cases h with
  | str s h0=>exact⟨s,_,rfl,h0,t⟩
theorem UFits.sl{row sh:List Sh}{us:List U}(h:UFits (.sl row::sh) us):∃l us',us=.l l::us'∧UFit (.sl row) (.l l)∧UFits sh us':=by
 cases h with
 | cons h t=>
  rename_i u us
  cases u with
  | l x=>exact⟨x,_,rfl,h,t⟩
  | _=>cases h
theorem UFits.none{us:List U}(h:UFits [] us):us=[]:=by cases h;rfl
end Go.Eng

namespace Go.Eng
theorem qf1{α:Type}(b:Bool)(t e:Tree α):(Tree.br b t e).run=if b=true then t.run else e.run:=by cases b<;>rfl
theorem q5w{α:Type}(a:α):(Tree.leaf a).run=some a:=rfl
theorem qAD{α:Type}:(Tree.fail:Tree α).run=none:=rfl
theorem qlA{R:TR}{x:Nat×List PV}(h:R.run=some x):okR R=true:=by simp[okR,h]
theorem qsU{R:TR}{j:Nat}{ps:List PV}(h:R.run=some (j,ps))(i:Nat):pR R i=ps.getD i (.i 0):=by simp[pR,h]
theorem z8{x y:Int}(h:-9223372036854775808≤x+y∧x+y≤9223372036854775807):qj .i64 x y=x+y:=by
 unfold qj IntKind.wrap
 simp[IntKind.signed,IntKind.bits];omega
theorem w9{x y:Int}(h:-9223372036854775808≤x-y∧x-y≤9223372036854775807):qw .i64 x y=x-y:=by
 unfold qw IntKind.wrap
 simp[IntKind.signed,IntKind.bits];omega
theorem q19{x y:Int}(h:-9223372036854775808≤x*y∧x*y≤9223372036854775807):uk .i64 x y=x*y:=by
 unfold uk IntKind.wrap
 simp[IntKind.signed,IntKind.bits];omega
theorem qkL(x y:Int):(ieq x y=true)=(x=y):=by simp[ieq]
theorem qr9(x y:Int):(ine x y=true)=(x≠y):=by simp[ine]
theorem qjY(x y:Int):(ilt x y=true)=(x<y):=by simp[ilt]
theorem qbU(x y:Int):(ile x y=true)=(x≤y):=by simp[ile]
theorem qqu(x y:Bool):(Go.Eng.beq x y=true)=(x=y):=by simp[Go.Eng.beq]
theorem qA4{a b A B:Int}(h1:-A≤a)(h2:a≤A)(h3:-B≤b)(h4:b≤B):-(A*B)≤a*b∧a*b≤A*B:=by
 have e1:=Int.mul_nonneg (show 0≤A-a by omega) (show 0≤B-b by omega)
 have e2:=Int.mul_nonneg (show 0≤A+a by omega) (show 0≤B+b by omega)
 have e3:=Int.mul_nonneg (show 0≤A-a by omega) (show 0≤B+b by omega)
 have e4:=Int.mul_nonneg (show 0≤A+a by omega) (show 0≤B-b by omega)
 simp only[Int.sub_mul,Int.mul_sub,Int.add_mul,Int.mul_add] at e1 e2 e3 e4
 omega
theorem qqg{x:Int}(h:-9223372036854775807≤x∧x≤9223372036854775807):qw .i64 0 x=-x:=by
 rw[w9 (by omega)];omega
theorem qqk{x:Int}(h:-9223372036854775808≤x∧x≤9223372036854775807):j5 .i64 x=x:=by
 unfold j5 IntKind.wrap
 simp[IntKind.signed,IntKind.bits];omega
theorem qAk(b:Bool):((!b)=true)=¬(b=true):=by cases b<;>simp
theorem qAW(x y:Bool):(qxU x y=true)=(x=true∧y=true):=by simp[qxU]
theorem qCO(i n:Int):(inb i n=true)=(0≤i∧i<n):=by simp[inb]
theorem qCd(i n:Int):(q6O i n=true)=(0≤i∧i≤n):=by simp[q6O]
theorem STD:(∀(α:Type) (b:Bool) (t e:Tree α),(Tree.br b t e).run=if b=true then t.run else e.run)∧(∀(α:Type) (a:α),(Tree.leaf a).run=some a)∧(∀(α:Type),(Tree.fail:Tree α).run=none) ∧
  (∀R:TR,okR R=R.run.isSome)∧(∀(α:Type) (a:α),(some a).isSome=true)∧(∀(R:TR) (i:Nat),gI R i=(pR R i).toI)∧(∀(R:TR) (i:Nat),gB R i=(pR R i).toB)∧(∀(R:TR) (i:Nat),gS R i=(pR R i).toS)∧(∀(R:TR) (i:Nat),gR R i=(pR R i).toR) ∧
  (∀(R:TR) (i:Nat),pR R i=R.run.elim (.i 0) fun r=>r.2.getD i (.i 0))∧(∀(α β:Type) (b:β) (f:α→β) (a:α),(some a).elim b f=f a) ∧
  (∀(a:PV) (l:List PV) (d:PV),(a::l).getD 0 d=a)∧(∀(a:PV) (l:List PV) (d:PV) (n:Nat),(a::l).getD (n+1) d=l.getD n d) ∧
  (∀n,(PV.i n).toI=n)∧(∀b,(PV.b b).toB=b)∧(∀s,(PV.s s).toS=s)∧(∀l,(PV.r l).toR=l) ∧
  (∀(α:Type) (h:Decidable True) (a b:α),@ite α True h a b=a)∧(∀(α:Type) (h:Decidable False) (a b:α),@ite α False h a b=b)∧((false=true)=False)∧((true=false)=False)∧((true=true)=True) ∧
  (∀x y,(ieq x y=true)=(x=y))∧(∀x y,(ine x y=true)=(x≠y))∧(∀x y,(ilt x y=true)=(x<y))∧(∀x y,(ile x y=true)=(x≤y))∧(∀x y,(Go.Eng.beq x y=true)=(x=y)) ∧
  (∀x y,(qxU x y=true)=(x=true∧y=true))∧(∀b:Bool,((!b)=true)=¬(b=true))∧(∀i n,(inb i n=true)=(0≤i∧i<n))∧(∀i n,(q6O i n=true)=(0≤i∧i≤n)) ∧
  (∀(p:Prop) (_:Decidable p),(decide p=true)=p)∧(∀(α:Type) (a b:α),(a≠b)=¬(a=b))∧(¬True)=False∧(¬False)=True:=
 ⟨fun _=>qf1,fun _=>q5w,fun _=>qAD,fun _=>rfl,fun _ _=>rfl,fun _ _=>rfl,fun _ _=>rfl,fun _ _=>rfl,fun _ _=>rfl,fun R i=>by unfold pR;cases R.run<;>rfl,fun _ _ _ _ _=>rfl,
  fun _ _ _=>rfl,fun _ _ _ _=>rfl,fun _=>rfl,fun _=>rfl,fun _=>rfl,fun _=>rfl,fun _ _ _ _=>by simp,fun _ _ _ _=>by simp,by simp,by simp,by simp,qkL,qr9,qjY,qbU,qqu,
  qAW,qAk,qCO,qCd,fun _ _=>by simp,fun _ _ _=>rfl,by simp,by simp⟩
theorem zk{R:TR}{j:Nat}{ps:List PV}(h:R.run=some (j,ps))(i:Nat):(jIs R i=true)=(j=i):=by simp[jIs,jR,h]
theorem run_bind{α β:Type}(t:Tree α)(f:α→Tree β):(t.bind f).run=t.run.bind fun a=>(f a).run:=by
 induction t with
 | leaf a=>rfl
 | br b t e iht ihe=>cases b<;>simp[Tree.bind,Tree.run,iht,ihe]
 | fail=>rfl
theorem qg7{S:List PV→TR}{n:Nat}{ps qs:List PV}(h:(S ps).run=some (0,qs)):(qiR S (n+1) ps).run=(qiR S n qs).run:=by
 simp[qiR,run_bind,h]
theorem q7a{S:List PV→TR}{n j:Nat}{ps qs:List PV}(h:(S ps).run=some (j+1,qs)):(qiR S (n+1) ps).run=some (j,qs):=by
 simp[qiR,run_bind,h,Tree.run]
def q0U{α:Type}(f:Nat→Option α):Nat→Nat→Option α
 | _,0=>none
 | i,k+1=>match f i with
  | some a=>some a
  | none=>q0U f (i+1) k
theorem qpW{S:List PV→TR}(st:Nat→List PV)(f:Nat→Option (Nat×List PV))(fin:Nat×List PV)(n:Nat)
  (h1:∀i,i<n→f i=none→(S (st i)).run=some (0,st (i+1))) (h2:∀i r,i<n→f i=some r→(S (st i)).run=some (r.1+1,r.2))
  (h3:(S (st n)).run=some (fin.1+1,fin.2)):∀(k i m:Nat),i+k=n→k<m→(qiR S m (st i)).run=some ((q0U f i k).getD fin)
 | 0,i,m,hi,hm=>by
  obtain⟨m,rfl⟩:∃m',m=m'+1:=⟨m-1,by omega⟩
  have:i=n:=by omega
  subst this
  rw[q7a h3];rfl
 | k+1,i,m,hi,hm=>by
  obtain⟨m,rfl⟩:∃m',m=m'+1:=⟨m-1,by omega⟩
  cases hf:f i with
  | none=>
   rw[qg7 (h1 i (by omega) hf),qpW st f fin n h1 h2 h3 k (i+1) m (by omega) (by omega)]
   simp[q0U,hf]
  | some r=>
   rw[q7a (h2 i r (by omega) hf)]
   simp[q0U,hf]
theorem qjH{S:List PV→TR}(st:Nat→List PV)(f:Nat→Option (Nat×List PV))(fin:Nat×List PV)(n:Nat)(hn:n<9223372036854775808)
  (h1:∀i,i<n→f i=none→(S (st i)).run=some (0,st (i+1))) (h2:∀i r,i<n→f i=some r→(S (st i)).run=some (r.1+1,r.2))
  (h3:(S (st n)).run=some (fin.1+1,fin.2)):(qh S (st 0)).run=some ((q0U f 0 n).getD fin):=
 qpW st f fin n h1 h2 h3 n 0 qfB (by omega) (Nat.lt_trans hn (by unfold qfB;decide))
theorem wB{S:List PV→TR}(st:Nat→List PV)(fin:Nat×List PV)(n:Nat)(hn:n<9223372036854775808)
  (h1:∀i,i<n→(S (st i)).run=some (0,st (i+1))) (h3:(S (st n)).run=some (fin.1+1,fin.2)):(qh S (st 0)).run=some fin:=by
 have h:=qjH st (fun _=>none) fin n hn (fun i hi _=>h1 i hi) (fun i r _ h=>by cases h) h3
 have e:∀k i,q0U (fun _=>(none:Option (Nat×List PV))) i k=none:=by
  intro k;induction k with
  | zero=>intro i;rfl
  | succ k ih=>intro i;simp[q0U,ih]
 rw[e] at h;exact h
theorem q1C{α:Type}{f:Nat→Option α}:∀{k i:Nat},q0U f i k=none→∀j,i≤j→j<i+k→f j=none
 | 0,i,_,j,h1,h2=>by omega
 | k+1,i,h,j,h1,h2=>by
  simp only[q0U] at h
  cases hf:f i with
  | some a=>rw[hf] at h;cases h
  | none=>
   rw[hf] at h
   rcases Nat.eq_or_lt_of_le h1 with rfl|h1
   ·exact hf
   ·exact q1C h j h1 (by omega)
theorem q1H{α:Type}{f g:Nat→Option α}:∀{k i:Nat},(∀j,i≤j→j<i+k→f j=g j)→q0U f i k=q0U g i k
 | 0,i,_=>rfl
 | k+1,i,h=>by
  simp only[q0U]
  rw[h i (by omega) (by omega),q1H (fun j h1 h2=>h j (by omega) (by omega))]
theorem qr7{α β:Type}(g:α→β){f:Nat→Option α}:∀{k i:Nat},q0U (fun j=>(f j).map g) i k=(q0U f i k).map g
 | 0,i=>rfl
 | k+1,i=>by
  simp only[q0U]
  cases f i with
  | some a=>rfl
  | none=>exact qr7 g
theorem q2U{i n:Nat}(h:i<n)(hn:n<9223372036854775808):qj .i64 (i:Int) 1=((i+1:Nat):Int):=by
 rw[z8 (by omega)];omega
theorem qtk{α:Type}(n:Nat):∀i,q0U (fun _=>(none:Option α)) i n=none:=by
 induction n with
 | zero=>intro i;rfl
 | succ n ih=>intro i;simp[q0U,ih]
def pick(p:Nat→Bool):Nat→R
 | 0=>[]
 | n+1=>if p n then q3z (pick p n) [[.i (n:Int)]] else pick p n
theorem qry(p:Nat→Bool):∀n,(pick p n).length≤n
 | 0=>Nat.le_refl _
 | n+1=>by
  have:=qry p n
  unfold pick;split
  ·simp[q3z];omega
  ·omega
def qlE(f:Nat→Int)(i:Nat):Option Int:=if f i=0 then none else some (f i)
theorem qzm{f:Nat→Int}{n:Nat}(h:q0U (qlE f) 0 n=none)(i:Nat)(hi:i<n):f i=0:=by
 have:=q1C h i (by omega) (by omega)
 unfold qlE at this;split at this
 ·assumption
 ·cases this
theorem qrc{f:Nat→Int}:∀{k i:Nat} {e:Int},q0U (qlE f) i k=some e→e≠0
 | 0,i,e,h=>by cases h
 | k+1,i,e,h=>by
  simp only[q0U] at h
  unfold qlE at h
  by_cases h0:f i=0
  ·rw[if_pos h0] at h;exact qrc h
  ·rw[if_neg h0] at h;simp at h;omega
def q4W(e:Nat→Int)(n:Nat):Int:=(q0U (qlE e) 0 n).getD 0
theorem qnK{e:Nat→Int}{n:Nat}(h:q4W e n=0)(i:Nat)(hi:i<n):e i=0:=by
 unfold q4W at h
 cases hs:q0U (qlE e) 0 n with
 | none=>exact qzm hs i hi
 | some x=>rw[hs] at h;exact absurd h (qrc hs)
theorem qmO{e:Nat→Int}{n:Nat}(h:∀i,i<n→e i=0):q4W e n=0:=by
 unfold q4W
 rw[q1H (g:=fun _=>none) (fun j _ hj=>by unfold qlE;rw[if_pos (h j (by omega))]),qtk];rfl
theorem qdl{S:List PV→TR}(st:Nat→List PV)(e:Nat→Int)(caps fin:List PV)(n:Nat)(hn:n<9223372036854775808)
  (h:∀i,i<n→(S (st i)).run=if e i=0 then some (0,st (i+1)) else some (2,.i (e i)::caps)) (h3:(S (st n)).run=some (1,fin)) :
  (qh S (st 0)).run=some (if q4W e n=0 then (0,fin) else (1,.i (q4W e n)::caps)):=by
 have key:=qjH st (fun i=>(qlE e i).map fun x=>(1,PV.i x::caps)) (0,fin) n hn (fun i hi hf=>by
  rw[h i hi];unfold qlE at hf;split at hf
  ·rename_i h0;rw[if_pos h0]
  ·simp at hf) (fun i r hi hf=>by
  rw[h i hi];unfold qlE at hf;split at hf
  ·simp at hf
  ·rename_i h0;simp at hf;rw[if_neg h0,←hf]) h3
 rw[key,qr7]
 unfold q4W
 cases hs:q0U (qlE e) 0 n with
 | none=>simp
 | some x=>simp[qrc hs]
def ue(g:Nat→List U)(n:Nat):R:=(List.range n).map g
theorem qcH(g:Nat→List U)(n:Nat):q3z (ue g n) [g n]=ue g (n+1):=by simp[q3z,ue,List.range_succ]
theorem q2S(g:Nat→List U)(n:Nat):(ue g n).length=n:=by simp[ue]
theorem qy8(g:Nat→List U)(n:Nat):qf (ue g n)=n:=by simp[qf,ue]
theorem qpK(g:Nat→List U){n i:Nat}(h:i<n)(j:Nat):wJ (ue g n) (i:Int) j=(g i).getD j (.i 0):=by
 unfold wJ ue
 simp[List.getD_eq_getElem?_getD,h]
theorem qa5(g:Nat→List U){n i:Nat}(h:i<n)(j:Nat):cI (ue g n) (i:Int) j=((g i).getD j (.i 0)).toI:=by unfold cI;rw[qpK g h]
theorem qCA(g:Nat→List U){n i:Nat}(h:i<n)(j:Nat):cB (ue g n) (i:Int) j=((g i).getD j (.i 0)).toB:=by unfold cB;rw[qpK g h]
theorem qtp{g:Nat→List U}{i n:Nat}{K:Int}(hi:i<n)(hn:(n:Int)≤K)(a:List U):qf (ue g i)+qf [a]≤K:=by
 rw[qy8];show (i:Int)+1≤_;omega
theorem qdV{l:R}{i:Nat}(h:i<l.length):(i:Int)<qf l:=by unfold qf;omega
theorem qmr(l:R):¬((l.length:Int)<qf l):=by unfold qf;omega
theorem uL(i:Nat):(0:Int)≤(i:Int):=by omega
theorem qAn(a:List U):qf [a]=1:=rfl
end Go.Eng

namespace Go.Eng
def dch(d:Nat):UInt8:=UInt8.ofNat (48+d)
def dv(c:UInt8):Nat:=c.toNat-48
def q62(s:List UInt8):Prop:=∀c,c∈s→48≤c.toNat∧c.toNat≤57
def val(s:List UInt8):Nat:=s.foldl (fun a c=>10*a+dv c) 0
def tNf:Nat→Nat→List UInt8
 | 0,_=>[]
 | f+1,n=>if n<10 then [dch n] else tNf f (n/10)++[dch (n%10)]
def tN(n:Nat):List UInt8:=tNf (n+1) n
def tI(n:Int):List UInt8:=if n<0 then 45::tN n.natAbs else tN n.natAbs
theorem q2E{d:Nat}(h:d<10):(dch d).toNat=48+d:=by
 unfold dch;rw[UInt8.toNat_ofNat'];omega
theorem qlp{d:Nat}(h:d<10):dv (dch d)=d:=by unfold dv;rw[q2E h];omega
theorem qBF{c:UInt8}(h1:48≤c.toNat)(h2:c.toNat≤57):dch (dv c)=c:=by
 apply UInt8.toNat_inj.1
 rw[q2E (by unfold dv;omega)];unfold dv;omega
theorem qj8(s:List UInt8)(c:UInt8):val (s++[c])=10*val s+dv c:=by simp[val,List.foldl_append]
theorem qnO:∀(t:List UInt8) (a:Nat),t.foldl (fun a c=>10*a+dv c) a=a*10^t.length+val t
 | [],a=>by simp[val]
 | c::t,a=>by
  have h1:=qnO t (10*a+dv c)
  have h2:=qnO t (10*0+dv c)
  have h3:val (c::t)=t.foldl (fun a c=>10*a+dv c) (10*0+dv c):=rfl
  rw[h3,h2,List.foldl_cons,h1,List.length_cons,Nat.pow_succ]
  grind
theorem qrP(s t:List UInt8):val (s++t)=val s*10^t.length+val t:=by
 have h:val (s++t)=t.foldl (fun a c=>10*a+dv c) (val s):=by simp[val,List.foldl_append]
 rw[h,qnO]
theorem q5D(c:UInt8)(t:List UInt8):val (c::t)=dv c*10^t.length+val t:=by
 have:=qrP [c] t
 simpa[val] using this
theorem qd8:val []=0:=rfl
theorem quz(c:UInt8):val [c]=dv c:=by simp[val]
theorem qm5:q62 []:=fun c h=>by cases h
theorem q0R{c:UInt8}{s:List UInt8}:q62 (c::s)↔(48≤c.toNat∧c.toNat≤57)∧q62 s:=by
 unfold q62;simp
theorem q8f{s t:List UInt8}:q62 (s++t)↔q62 s∧q62 t:=by
 unfold q62;simp only[List.mem_append]
 exact⟨fun h=>⟨fun c hc=>h c (.inl hc),fun c hc=>h c (.inr hc)⟩,fun h c hc=>hc.elim (h.1 c) (h.2 c)⟩
theorem qx5{c:UInt8}(h:48≤c.toNat∧c.toNat≤57):dv c<10:=by unfold dv;omega
theorem q68:∀{s:List UInt8},q62 s→val s<10^s.length
 | [],_=>by simp[val]
 | c::s,h=>by
  obtain⟨h1,h2⟩:=q0R.1 h
  have ih:=q68 h2
  have hd:=qx5 h1
  rw[q5D,List.length_cons,Nat.pow_succ]
  have:dv c*10^s.length≤9*10^s.length:=Nat.mul_le_mul_right _ (by omega)
  omega
theorem qs1{d:Nat}(h:d<10):q62 [dch d]:=by
 intro c hc
 simp at hc;subst hc
 rw[q2E h];omega
theorem qBp:∀(f g n:Nat),n<f→n<g→tNf f n=tNf g n
 | 0,_,n,h,_=>by omega
 | _,0,n,_,h=>by omega
 | f+1,g+1,n,h1,h2=>by
  unfold tNf
  by_cases h:n<10
  ·rw[if_pos h,if_pos h]
  ·rw[if_neg h,if_neg h,qBp f g (n/10) (by omega) (by omega)]
theorem qtG{n:Nat}(h:n<10):tN n=[dch n]:=by unfold tN tNf;rw[if_pos h]
theorem quV{n:Nat}(h:10≤n):tN n=tN (n/10)++[dch (n%10)]:=by
 have:tN n=tNf n (n/10)++[dch (n%10)]:=by
  show tNf (n+1) n=_
  rw[tNf,if_neg (by omega)]
 rw[this,qBp n (n/10+1) (n/10) (by omega) (by omega)];rfl
theorem qqC(n:Nat):q62 (tN n)∧tN n≠[]∧val (tN n)=n:=by
 induction n using Nat.strongRecOn with
 | _ n ih=>
  by_cases h:n<10
  ·rw[qtG h];exact⟨qs1 h,by simp,by rw[quz,qlp h]⟩
  ·rw[quV (by omega)]
   obtain⟨h1,h2,h3⟩:=ih (n/10) (by omega)
   refine⟨q8f.2 ⟨h1,qs1 (by omega)⟩,by simp,?_⟩
   rw[qj8,h3,qlp (by omega)];omega
theorem wl(n:Nat):q62 (tN n):=(qqC n).1
theorem qmP(n:Nat):tN n≠[]:=(qqC n).2.1
theorem q0N(n:Nat):val (tN n)=n:=(qqC n).2.2
theorem qgI(n:Nat):0<(tN n).length:=List.length_pos_iff.2 (qmP n)
theorem q5f:∀(k n:Nat),n<10^(k+1)→(tN n).length≤k+1
 | 0,n,h=>by rw[qtG (by simpa using h)];simp
 | k+1,n,h=>by
  by_cases h10:n<10
  ·rw[qtG h10];simp
  ·rw[quV (by omega),List.length_append]
   have:=q5f k (n/10) (by rw[Nat.pow_succ] at h;omega)
   simp;omega
theorem qsS:∀(k n:Nat),10^k≤n→k<(tN n).length
 | 0,n,_=>qgI n
 | k+1,n,h=>by
  have hp:0<10^k:=Nat.pow_pos (by omega)
  rw[Nat.pow_succ] at h
  rw[quV (by omega),List.length_append]
  have:=qsS k (n/10) (by omega)
  simp;omega
theorem q5J{k n:Nat}(h:(tN n).length≤k):n<10^k:=by
 have:=q68 (wl n)
 rw[q0N] at this
 exact Nat.lt_of_lt_of_le this (Nat.pow_le_pow_right (by omega) h)
def qE5(s:List UInt8):Prop:=s.length=1∨s.getD 0 0≠48
theorem qvO{s:List UInt8}(hd:q62 s)(hn:s≠[])(h:s.getD 0 0≠48):10^(s.length-1)≤val s:=by
 cases s with
 | nil=>exact absurd rfl hn
 | cons c s=>
  obtain⟨h1,h2⟩:=q0R.1 hd
  simp at h
  have hc:1≤dv c:=by
   unfold dv
   have:c.toNat≠48:=fun e=>h (UInt8.toNat_inj.1 (by simpa using e))
   omega
  rw[q5D,List.length_cons,Nat.add_sub_cancel]
  have:1*10^s.length≤dv c*10^s.length:=Nat.mul_le_mul_right _ hc
  omega
theorem qBj:∀(n:Nat) {s:List UInt8},s.length=n+1→q62 s→qE5 s→tN (val s)=s
 | 0,s,hl,hd,_=>by
  match s,hl with
  | [c],_=>
   have h1:=(q0R.1 hd).1
   rw[quz,qtG (qx5 h1),qBF h1.1 h1.2]
 | n+1,s,hl,hd,hz=>by
  obtain⟨i,c,rfl⟩:∃i c,s=i++[c]:=⟨s.dropLast,s.getLast (by intro h;simp[h] at hl),(List.dropLast_concat_getLast _).symm⟩
  have hil:i.length=n+1:=by simpa using hl
  obtain⟨h1,h2⟩:=q8f.1 hd
  have hc:=(q0R.1 h2).1
  have hi:i≠[]:=by intro h;simp[h] at hil
  have hz0:i.getD 0 0≠48:=by
   rcases hz with hz|hz
   ·exact absurd (by simpa using hz) hi
   ·cases i with
    | nil=>exact absurd rfl hi
    | cons a i=>simpa using hz
  have hv:1≤val i:=Nat.le_trans (Nat.one_le_pow _ _ (by omega)) (qvO h1 hi hz0)
  have hd10:=qx5 hc
  rw[qj8,quV (n:=10*val i+dv c) (by omega),show (10*val i+dv c)/10=val i by omega,show (10*val i+dv c)%10=dv c by omega,qBF hc.1 hc.2,qBj n hil h1 (.inr hz0)]
theorem qnv{s:List UInt8}(hd:q62 s)(hn:s≠[])(hz:qE5 s):s=tN (val s):=
 (qBj (s.length-1) (by have:=List.length_pos_iff.2 hn;omega) hd hz).symm
theorem qq5{m n:Nat}(h:tN m=tN n):m=n:=by rw[←q0N m,h,q0N]
theorem qzX(n:Nat):qE5 (tN n):=by
 induction n using Nat.strongRecOn with
 | _ n ih=>
  by_cases h:n<10
  ·rw[qtG h];exact .inl rfl
  ·rw[quV (by omega)]
   right
   by_cases h2:n/10<10
   ·rw[qtG h2]
    intro e
    have:(dch (n/10)).toNat=48:=by
     have e':dch (n/10)=48:=by simpa using e
     rw[e'];rfl
    rw[q2E h2] at this;omega
   ·have h3:(tN (n/10)).length≠1:=by
     have:=qsS 1 (n/10) (by omega);omega
    rcases ih (n/10) (by omega) with h4|h4
    ·exact absurd h4 h3
    ·cases hq:tN (n/10) with
     | nil=>exact absurd hq (qmP _)
     | cons a i=>rw[hq] at h4;simpa using h4
theorem qCx(t:List UInt8):slt [] t=!t.isEmpty:=by cases t<;>rfl
theorem qAI(a b:UInt8)(s t:List UInt8):slt (a::s) (b::t)=(decide (a<b)||(a==b&&slt s t)):=by
 unfold slt
 simp only[Op.bytesLess]
theorem quU:∀{s t:List UInt8},q62 s→q62 t→s.length=t.length→((slt s t=true)=(val s<val t))
 | [],[],_,_,_=>by simp[qCx,qd8]
 | a::s,b::t,h1,h2,hl=>by
  obtain⟨ha,hs⟩:=q0R.1 h1
  obtain⟨hb,ht⟩:=q0R.1 h2
  have hl':s.length=t.length:=by simpa using hl
  have ih:=quU hs ht hl'
  have v1:=q68 hs
  have v2:=q68 ht
  rw[qAI,q5D,q5D,hl']
  rw[hl'] at v1
  have hab:(a<b)=(dv a<dv b):=by
   unfold dv;rw[UInt8.lt_iff_toNat_lt];simp only[eq_iff_iff];omega
  have hab2:(a=b)=(dv a=dv b):=by
   unfold dv;rw[←UInt8.toNat_inj];simp only[eq_iff_iff];omega
  simp only[Bool.or_eq_true,decide_eq_true_eq,Bool.and_eq_true,beq_iff_eq,eq_iff_iff,ih,hab,hab2]
  generalize 10^t.length=p at *
  generalize dv a=x at *
  generalize dv b=y at *
  constructor
  ·rintro (h|⟨rfl,h⟩)
   ·have:=Nat.mul_le_mul_right p (show x+1≤y by omega)
    rw[Nat.add_mul] at this;omega
   ·omega
  ·intro h
   rcases Nat.lt_trichotomy x y with h3|h3|h3
   ·exact .inl h3
   ·subst h3;exact .inr ⟨rfl,by omega⟩
   ·have:=Nat.mul_le_mul_right p (show y+1≤x by omega)
    rw[Nat.add_mul] at this;omega
theorem ko{m n:Nat}(h:m≤n):(tN m).length≤(tN n).length:=by
 rcases Nat.lt_or_ge (tN n).length (tN m).length with h1|h1
 ·have h2:=q5J (Nat.le_refl (tN n).length)
  have h3:0<(tN n).length:=qgI n
  have:=q5f ((tN n).length-1) m (by rw[Nat.sub_add_cancel h3];omega)
  omega
 ·exact h1
theorem qv0(m n:Nat):((tN m).length<(tN n).length∨(tN m).length=(tN n).length∧slt (tN m) (tN n)=true)↔m<n:=by
 constructor
 ·rintro (h|⟨h1,h2⟩)
  ·rcases Nat.lt_or_ge m n with h3|h3
   ·exact h3
   ·have:=ko h3;omega
  ·rw[quU (wl m) (wl n) h1,q0N,q0N] at h2;exact h2
 ·intro h
  have h1:=ko (Nat.le_of_lt h)
  rcases Nat.lt_or_ge (tN m).length (tN n).length with h3|h3
  ·exact .inl h3
  ·have h4:(tN m).length=(tN n).length:=by omega
   exact .inr ⟨h4,by rw[quU (wl m) (wl n) h4,q0N,q0N];exact h⟩
theorem qvY(s:List UInt8):val (48::s)=val s:=by rw[q5D];simp[dv]
theorem qnc(n:Nat)(s:List UInt8):val (List.replicate n 48++s)=val s:=by
 induction n with
 | zero=>rfl
 | succ n ih=>rw[List.replicate_succ,List.cons_append,qvY,ih]
theorem qkw(n:Nat):q62 (List.replicate n 48):=by
 intro c hc
 rw[(List.mem_replicate.1 hc).2];decide
def rI(l:List Int):R:=l.map fun v=>[.i v]
theorem qiK(l:List Int):qf (rI l)=l.length:=by simp[qf,rI]
theorem qC8(l:List Int)(i:Int):cI (rI l) i 0=l.getD i.toNat 0:=by
 unfold cI wJ rI
 simp only[List.getD_eq_getElem?_getD,List.getElem?_map]
 cases l[i.toNat]?<;>rfl
theorem qxQ(x v:U):qio [x] 0 [v]=[v]:=rfl
theorem qt1(l:List Int)(i v:Int):q6W (rI l) i 0 [.i v]=rI (l.set i.toNat v):=by
 unfold q6W rI
 apply List.ext_getElem?
 intro j
 by_cases hj:j=i.toNat
 ·subst hj
  by_cases hl:i.toNat<l.length
  ·simp[hl,List.getD_eq_getElem?_getD,qxQ]
  ·rw[List.getElem?_eq_none (by simp;omega),List.getElem?_eq_none (by simp;omega)]
 ·rw[List.getElem?_set_ne (Ne.symm hj),List.getElem?_map,List.getElem?_map,List.getElem?_set_ne (Ne.symm hj)]
theorem qhN(n v:Int):q3x n [.i v]=rI (List.replicate n.toNat v):=by simp[q3x,rI]
theorem qCK(l:List Int):qgk (rI l)=l.map fun v=>UInt8.ofNat v.toNat:=by
 unfold qgk rI
 rw[List.map_map]
 rfl
theorem qDf(l:List Int)(i:Int)(s:List UInt8):qtZ (rI l) i s=rI (l.take i.toNat++s.map (fun c=>(c.toNat:Int))++l.drop (i.toNat+s.length)):=by
 unfold qtZ rI
 simp[List.map_take,List.map_drop]
theorem qkg(s:List UInt8):qgk (rI (s.map fun c=>(c.toNat:Int)))=s:=by
 rw[qCK,List.map_map]
 have:((fun v:Int=>UInt8.ofNat v.toNat)∘fun c:UInt8=>(c.toNat:Int))=id:=by
  funext c;simp
 rw[this,List.map_id]
theorem qqh{s:List UInt8}{i:Nat}(h:i<s.length):sat s (i:Int)=(s[i].toNat:Int):=by
 unfold sat
 simp[List.getD_eq_getElem?_getD,h]
theorem wk(s t:List UInt8):(seq s t=true)=(s=t):=by simp[seq]
theorem qBH{x:Int}(h:48≤x∧x≤255):qw .u8 x 48=x-48:=by
 unfold qw IntKind.wrap
 simp[IntKind.signed,IntKind.bits];omega
theorem qq1{x:Int}(h:0≤x∧x≤255):j5 .u8 x=x:=by
 unfold j5 IntKind.wrap
 simp[IntKind.signed,IntKind.bits];omega
theorem qmd(a b:Nat):q69 (a:Int) (b:Int)=((a%b:Nat):Int):=by
 unfold q69;rw[Int.tmod_eq_emod_of_nonneg (by omega)];rfl
theorem qwg{a b:Nat}(h:a<9223372036854775808):u6 .i64 (a:Int) (b:Int)=((a/b:Nat):Int):=by
 unfold u6
 rw[Int.tdiv_eq_ediv_of_nonneg (by omega)]
 have:(a:Int)/(b:Int)=((a/b:Nat):Int):=rfl
 have h2:a/b≤a:=Nat.div_le_self a b
 rw[this]
 generalize a/b=q at *
 unfold IntKind.wrap
 simp[IntKind.signed,IntKind.bits];omega
theorem u7{S:List PV→TR}(I:Nat→List PV→Prop)(Q:Nat→List PV→Prop){n:Nat}(hn:n<9223372036854775808)
  (h:∀k ps,k≤n→I k ps→(∃k' qs,k'<k∧(S ps).run=some (0,qs)∧I k' qs)∨∃j qs,(S ps).run=some (j+1,qs)∧Q j qs) {ps:List PV} (h0:I n ps):∃j qs,(qh S ps).run=some (j,qs)∧Q j qs:=by
 have key:∀m k ps,k≤n→k<m→I k ps→∃j qs,(qiR S m ps).run=some (j,qs)∧Q j qs:=by
  intro m
  induction m with
  | zero=>intro k ps _ h;omega
  | succ m ih=>
   intro k ps hk hm hI
   rcases h k ps hk hI with⟨k',qs,h1,h2,h3⟩|⟨j,qs,h1,h2⟩
   ·obtain⟨j,rs,g1,g2⟩:=ih k' qs (by omega) (by omega) h3
    exact⟨j,rs,by rw[qg7 h2];exact g1,g2⟩
   ·exact⟨j,qs,q7a h1,h2⟩
 exact key qfB n ps (Nat.le_refl _) (Nat.lt_trans hn (by unfold qfB;decide)) h0
end Go.Eng

namespace Go.Eng
theorem qaU{m:Int}(h:m<0):tI m=45::tN m.natAbs:=by unfold tI;rw[if_pos h]
theorem qi9{m:Int}(h:¬m<0):tI m=tN m.natAbs:=by unfold tI;rw[if_neg h]
theorem q0Y(n:Nat):tI (n:Int)=tN n:=by rw[qi9 (by omega)];rfl
theorem qus:tN 0=[48]:=rfl
theorem qg1{s:List UInt8}(hd:q62 s)(hn:s≠[]):∃c t,s=c::t∧48≤c.toNat∧c.toNat≤57:=by
 cases s with
 | nil=>exact absurd rfl hn
 | cons c t=>exact⟨c,t,rfl,(q0R.1 hd).1⟩
theorem qt0(m:Int):(tI m).length≤(tN m.natAbs).length+1:=by unfold tI;split<;>simp
theorem qmm(m:Int):0<(tI m).length:=by
 have:=qgI m.natAbs
 unfold tI;split<;>simp<;>omega
theorem qvN{m n:Int}(h:tI m=tI n):m=n:=by
 have key:∀{m n:Int},m<0→¬n<0→tI m≠tI n:=by
  intro m n h1 h2 e
  rw[qaU h1,qi9 h2] at e
  obtain⟨c,t,hc,h3,h4⟩:=qg1 (wl n.natAbs) (qmP _)
  rw[hc] at e
  have:=(List.cons.inj e).1
  rw[←this] at h3
  exact absurd h3 (by decide)
 by_cases h1:m<0<;>by_cases h2:n<0
 ·rw[qaU h1,qaU h2] at h
  have:=qq5 (List.cons.inj h).2
  omega
 ·exact absurd h (key h1 h2)
 ·exact absurd h.symm (key h2 h1)
 ·rw[qi9 h1,qi9 h2] at h
  have:=qq5 h
  omega
theorem qwt(m:Int):(sat (tI m) 0=45)=(m<0):=by
 by_cases h:m<0
 ·rw[qaU h];simp[sat,h]
 ·rw[qi9 h]
  obtain⟨c,t,hc,h3,h4⟩:=qg1 (wl m.natAbs) (qmP _)
  rw[hc]
  simp[sat,h];omega
theorem wF(m:Int):(qz [.s (tI m)]).run=some (0,[.s (tN m.natAbs)]):=by
 rw[qs0]
 have hp:=qmm m
 have hne:¬tI m=[]:=fun h=>by rw[h] at hp;simp at hp
 have h1:(0:Int)<qu (tI m):=by unfold qu;omega
 have h2:(1:Int)≤qu (tI m):=by omega
 simp only[STD,wk,hne,h1,h2,qwt,Int.le_refl,show (0:Int)≤qu (tI m) by omega,and_self,show (0:Int)≤1 by omega]
 by_cases h:m<0
 ·rw[if_pos h,qaU h];simp[qet,qu]
 ·rw[if_neg h,qi9 h]
theorem jK(m:Int):(qN [.s (tI m)]).run=some (0,[.b (decide (m<0))]):=by
 rw[qp4]
 have hp:=qmm m
 have h1:(0:Int)<qu (tI m):=by unfold qu;omega
 have h2:ieq (sat (tI m) 0) 45=decide (m<0):=by
  have:=qwt m
  by_cases h:m<0<;>simp[ieq,h] at this ⊢<;>exact this
 simp only[STD,h1,h2,Int.le_refl,and_self]
theorem q01(n:Nat)(b:Bool)(hl:(tN n).length≤100000000):(qO [.s (tN n),.b b]).run=some (0,[.s (tI (if b then -(n:Int) else n))]):=by
 rw[qnb]
 have h1:qu [45]+qu (tN n)≤140737488355328:=by show (1:Int)+((tN n).length:Int)≤_;omega
 have h0:(tN n=[48])=(n=0):=by
  rw[←qus];exact propext ⟨fun h=>qq5 h,fun h=>by rw[h]⟩
 simp only[STD,wk,h1,h0]
 cases b with
 | false=>simp[q0Y]
 | true=>
  by_cases hn:n=0
  ·subst hn;simp[tI,qus]
  ·have:(-(n:Int))<0:=by omega
   simp[hn,qaU this,qbV]
theorem qbR(m:Int)(hl:(tN m.natAbs).length≤100000000):(zT [.s (tI m)]).run=some (0,[.s (tI (-m))]):=by
 rw[qnG]
 simp only[STD,wF,jK,q01 _ _ hl]
 have e:(if ¬m<0 then -(m.natAbs:Int) else (m.natAbs:Int))=-m:=by
  by_cases h:m<0
  ·rw[if_neg (by simp[h])];omega
  ·rw[if_pos (by simp[h])];omega
 rw[e]
theorem q8i{s:List UInt8}{i:Nat}(h:i<s.length):val (s.take (i+1))=10*val (s.take i)+dv s[i]:=by
 rw[List.take_add_one,List.getElem?_eq_getElem h,Option.toList_some,qj8]
theorem qtJ{s:List UInt8}(h:q62 s)(i:Nat):q62 (s.take i):=fun c hc=>h c (List.mem_of_mem_take hc)
theorem qzK{s:List UInt8}(h:q62 s)(i:Nat):q62 (s.drop i):=fun c hc=>h c (List.mem_of_mem_drop hc)
theorem qmb{s:List UInt8}(h:q62 s){i:Nat}(hi:i<s.length):48≤s[i].toNat∧s[i].toNat≤57:=h _ (List.getElem_mem hi)
theorem qu6{s:List UInt8}(h:q62 s){i:Nat}(hi:i<s.length):j5 .i64 (qw .u8 (sat s (i:Int)) 48)=(dv s[i]:Int)∧dv s[i]<10:=by
 have hd:=qmb h hi
 rw[qqh hi,qBH (by omega),qqk (by omega)]
 unfold dv;omega
theorem qgZ(m:Int)(hl:(tN m.natAbs).length≤18):(uf [.s (tI m)]).run=some (0,[.i m]):=by
 rw[qmY]
 have hd:=wl m.natAbs
 have k:=wB (S:=uT) (fun i=>[.s (tI m),.i (val ((tN m.natAbs).take i):Int),.s (tN m.natAbs),.i (i:Int)]) (0,[.s (tI m),.i (m.natAbs:Int)]) (tN m.natAbs).length (by omega) (fun i hi=>by
  rw[qcK]
  obtain⟨e1,e2⟩:=qu6 hd hi
  have hv:=q68 (qtJ hd i)
  have hv2:10^((tN m.natAbs).take i).length≤100000000000000000:=Nat.le_trans (Nat.pow_le_pow_right (n:=10) (by omega) (show _≤17 by rw[List.length_take];omega)) (by decide)
  have hv3:=Nat.lt_of_lt_of_le hv hv2
  clear hv hv2
  have hlt:(i:Int)<qu (tN m.natAbs):=by unfold qu;omega
  have e3:qj .i64 (uk .i64 10 (val ((tN m.natAbs).take i):Int)) (dv (tN m.natAbs)[i]:Int)=((10*val ((tN m.natAbs).take i)+dv (tN m.natAbs)[i]:Nat):Int):=by
   rw[q19 (by omega),z8 (by omega)];omega
  simp only[STD,hlt,uL,and_self,e1,q2U hi (by omega),q8i hi,e3]) (by
  rw[qcK]
  have:¬((tN m.natAbs).length:Int)<qu (tN m.natAbs):=by unfold qu;omega
  simp only[STD,this,List.take_length,q0N])
 have k':(qh uT [.s (tI m),.i 0,.s (tN m.natAbs),.i 0]).run=_:=k
 have hm:m.natAbs<1000000000000000000:=Nat.lt_of_lt_of_le (q5J hl) (by decide)
 have hneg:m<0→qw .i64 0 (m.natAbs:Int)=m:=fun h=>by rw[qqg (by omega)];omega
 have hpos:¬m<0→(m.natAbs:Int)=m:=fun h=>by omega
 clear hm k hd
 simp only[STD,wF,k',jK]
 by_cases h:m<0
 ·rw[if_pos h,hneg h]
 ·rw[if_neg h,hpos h]
theorem q60(m n:Int):(wA [.s (tI m),.s (tI n)]).run=some (0,if (tN m.natAbs).length≤18∧(tN n.natAbs).length≤18 then [.i m,.i n,.b true] else [.i 0,.i 0,.b false]):=by
 rw[qpf]
 have e:∀t:List UInt8,(18<qu t)=¬(t.length≤18):=fun t=>by unfold qu;simp only[eq_iff_iff];omega
 by_cases h1:(tN m.natAbs).length≤18
 ·by_cases h2:(tN n.natAbs).length≤18
  ·simp only[STD,wF,e,h1,h2,qgZ m h1,qgZ n h2,and_self]
  ·simp only[STD,wF,e,h1,h2,and_false]
 ·simp only[STD,wF,e,h1,false_and]
theorem qqq{d:Int}(h0:0≤d)(h:d<10):qgk [[.i (j5 .u8 (qj .i64 48 d))]]=[dch d.toNat]:=by
 rw[z8 (by omega),qq1 (by omega)]
 show [UInt8.ofNat (48+d).toNat]=[UInt8.ofNat (48+d.toNat)]
 rw[show (48+d).toNat=48+d.toNat by omega]
theorem qzD{S:List PV→TR}(hS:∀(y0:Int) (y1:List UInt8),S [.i y0,.s y1]=(.br (ilt 9 y0) (.br (ile ((qu (qgk [[(.i (j5 .u8 (qj .i64 48 (q69 y0 10))))]]))+(qu y1)) 140737488355328) (.leaf (0,[(.i (u6 .i64 y0 10)),(.s (qbV (qgk [[(.i (j5 .u8 (qj .i64 48 (q69 y0 10))))]]) y1))])) .fail) (.leaf (1,[(.i y0),(.s y1)]))))
  (n:Nat) (hn:n<9223372036854775808):∃(a:Nat) (r:List UInt8),(qh S [.i (n:Int),.s []]).run=some (0,[.i (a:Int),.s r])∧a<10∧tN n=tN a++r:=by
 have hlen:(tN n).length≤19:=q5f 18 n (by omega)
 obtain⟨j,qs,h1,h2⟩:=u7 (S:=S) (fun k ps=>∃(r:List UInt8),ps=[.i (k:Int),.s r]∧tN n=tN k++r) (fun j qs=>∃(a:Nat) (r:List UInt8),j=0∧qs=[.i (a:Int),.s r]∧a<10∧tN n=tN a++r) hn (fun k ps hk ⟨r,hps,ht⟩=>by
  subst hps
  by_cases h9:k<10
  ·right
   have:¬(9:Int)<(k:Int):=by omega
   exact⟨0,_,by rw[hS];simp only[STD,this],k,r,rfl,rfl,h9,ht⟩
  ·left
   have h9':(9:Int)<(k:Int):=by omega
   have hr:q69 (k:Int) 10=((k%10:Nat):Int):=qmd k 10
   have hq:u6 .i64 (k:Int) 10=((k/10:Nat):Int):=qwg (b:=10) (by omega)
   have hd:qgk [[(.i (j5 .u8 (qj .i64 48 (q69 (k:Int) 10))))]]=[dch (k%10)]:=by
    rw[hr,qqq (by omega) (by omega)];rfl
   have hrl:r.length≤19:=by
    have:=congrArg List.length ht
    rw[List.length_append] at this;omega
   have hle:qu [dch (k%10)]+qu r≤140737488355328:=by
    show (1:Int)+(r.length:Int)≤_;omega
   refine⟨k/10,[.i ((k/10:Nat):Int),.s ([dch (k%10)]++r)],by omega,?_,_,rfl,?_⟩
   ·rw[hS];simp only[STD,h9',hd,hq,hle];rfl
   ·rw[ht,quV (by omega),List.append_assoc]) (ps:=[.i (n:Int),.s []]) ⟨[],rfl,by simp⟩
 obtain⟨a,r,rfl,rfl,h3,h4⟩:=h2
 exact⟨a,r,h1,h3,h4⟩
theorem qzI{a:Nat}{r:List UInt8}(ha:a<10):qbV (qgk [[(.i (j5 .u8 (qj .i64 48 (a:Int))))]]) r=tN a++r:=by
 rw[qqq (by omega) (by omega),qtG ha];rfl
theorem of_le{a:Nat}{r:List UInt8}(ha:a<10)(hr:r.length≤1000):qu (qgk [[(.i (j5 .u8 (qj .i64 48 (a:Int))))]])+qu r≤140737488355328:=by
 rw[qqq (by omega) (by omega)]
 show (1:Int)+(r.length:Int)≤_;omega
theorem qBn{x:Int}(h1:-9223372036854775808<x)(h2:x≤9223372036854775807):qw .i64 0 x=-x:=qqg (by omega)
theorem qDk(n:Nat)(hn:n<9223372036854775808):(q4P [.i (n:Int)]).run=some (0,[.s (tN n)])∧(zf [.i (n:Int)]).run=some (0,[.s (tN n)]):=by
 obtain⟨a,r,h1,h2,h3⟩:=qzD qoE n hn
 obtain⟨a',r',h1',h2',h3'⟩:=qzD qqO n hn
 have hlen:(tN n).length≤19:=q5f 18 n (by omega)
 have hr:r.length≤1000:=by have:=congrArg List.length h3;rw[List.length_append] at this;omega
 have hr':r'.length≤1000:=by have:=congrArg List.length h3';rw[List.length_append] at this;omega
 have hneg:qw .i64 0 (n:Int)=-(n:Int):=qBn (by omega) (by omega)
 have h0:((n:Int)=-(n:Int))=(n=0):=by simp only[eq_iff_iff];omega
 have hlt:¬(n:Int)<0:=by omega
 have hz:((n:Int)=0)=(n=0):=by simp only[eq_iff_iff];omega
 constructor
 ·rw[qsv]
  simp only[STD,hneg,h0,hz,hlt,h1,qzI h2,of_le h2 hr,←h3]
  by_cases h:n=0<;>simp[h]
 ·rw[qo3]
  simp only[STD,hneg,h0,hz,hlt,h1',qzI h2',of_le h2' hr',←h3']
  by_cases h:n=0<;>simp[h]
theorem uU(n:Int)(h1:-9223372036854775808<n)(h2:n≤9223372036854775807):(zf [.i n]).run=some (0,[.s (tI n)]):=by
 by_cases h:n<0
 ·obtain⟨a,ha⟩:∃a:Nat,n=-(a:Int):=⟨n.natAbs,by omega⟩
  subst ha
  have hneg:qw .i64 0 (-(a:Int))=(a:Int):=by rw[qBn (by omega) (by omega)];omega
  have hlen:(tN a).length≤19:=q5f 18 a (by omega)
  have ht:=qbR (a:Int) (by simp;omega)
  rw[q0Y] at ht
  rw[qo3]
  have e1:¬(-(a:Int)=(a:Int)):=by omega
  simp only[STD,hneg,h,e1,(qDk a (by omega)).1,ht]
 ·obtain⟨a,rfl⟩:∃a:Nat,n=(a:Int):=⟨n.toNat,by omega⟩
  rw[(qDk a (by omega)).2,q0Y]
theorem qfg(m n:Nat):(kf [.s (tN m),.s (tN n)]).run=some (0,[.b (decide (m<n))]):=by
 rw[qqG]
 have h:=qv0 m n
 have e1:(qu (tN m)<qu (tN n))=((tN m).length<(tN n).length):=by unfold qu;simp only[eq_iff_iff];omega
 have e2:(qu (tN m)=qu (tN n))=((tN m).length=(tN n).length):=by unfold qu;simp only[eq_iff_iff];omega
 simp only[STD,e1,e2]
 by_cases h1:(tN m).length<(tN n).length
 ·have:m<n:=h.1 (.inl h1)
  simp[h1,this]
 ·by_cases h2:(tN m).length=(tN n).length
  ·cases hs:slt (tN m) (tN n) with
   | true=>simp[h2,h.1 (.inr ⟨h2,hs⟩)]
   | false=>
    have:¬m<n:=fun hh=>by rcases h.2 hh with h3|⟨_,h3⟩<;>simp_all
    simp[h2,this]
  ·have:¬m<n:=fun hh=>by rcases h.2 hh with h3|⟨h3,_⟩<;>omega
   simp[h1,h2,this]
end Go.Eng

namespace Go.Eng
theorem qly(s:List UInt8)(n:Nat)(h0:0<n)(hn:n≤1000000000)(hl:s.length≤n):(q2x [.s s,.i (n:Int)]).run=some (0,[.s (List.replicate (n-s.length) 48++s)]):=by
 rw[qrE]
 have k:=wB (S:=q1D) (fun i=>[.s s,.i (n:Int),.i (i:Int),.r (rI (List.replicate i 48++List.replicate (n-i) 0))]) (0,[.s s,.i (n:Int),.r (rI (List.replicate n 48))]) n (by omega) (fun i hi=>by
  rw[qft]
  have h1:(i:Int)<(n:Int):=by omega
  have h2:(i:Int)<qf (rI (List.replicate i 48++List.replicate (n-i) 0)):=by rw[qiK];simp;omega
  have h3:(List.replicate i (48:Int)++List.replicate (n-i) 0).set (i:Int).toNat 48=List.replicate (i+1) 48++List.replicate (n-(i+1)) 0:=by
   rw[Int.toNat_natCast,List.set_append_right _ _ (by simp),List.length_replicate,Nat.sub_self]
   rw[show n-i=(n-(i+1))+1 by omega,List.replicate_succ,List.set_cons_zero,List.replicate_succ']
   simp
  simp only[STD,h1,h2,uL,and_self,q2U hi (by omega),qt1,h3]) (by
  rw[qft]
  simp only[STD,Int.lt_irrefl,Nat.sub_self,List.replicate_zero,List.append_nil])
 have k':(qh q1D [.s s,.i (n:Int),.i 0,.r (rI (List.replicate n 0))]).run=some (0,[.s s,.i (n:Int),.r (rI (List.replicate n 48))]):=by simpa using k
 have e1:qw .i64 (n:Int) (qu s)=((n-s.length:Nat):Int):=by
  rw[w9 (by unfold qu;omega)];unfold qu;omega
 have e2:(0:Int)≤(n:Int):=by omega
 have e3:(n:Int)≤140737488355328:=by omega
 have e4:(0:Int)<qf (rI (List.replicate n 48)):=by rw[qiK,List.length_replicate];omega
 have e5:((n-s.length:Nat):Int)≤qf (rI (List.replicate n 48)):=by rw[qiK,List.length_replicate];omega
 have e6:qu s≤qvw (qf (rI (List.replicate n 48))) ((n-s.length:Nat):Int):=by rw[qiK,List.length_replicate];unfold qvw qu;omega
 have e7:qgk (rI (List.take ((n-s.length:Nat):Int).toNat (List.replicate n 48)++s.map (fun c=>(c.toNat:Int))++List.drop (((n-s.length:Nat):Int).toNat+s.length) (List.replicate n 48)))=List.replicate (n-s.length) 48++s:=by
  rw[Int.toNat_natCast,List.take_replicate,List.drop_replicate,Nat.min_eq_left (by omega),show n-(n-s.length+s.length)=0 by omega,List.replicate_zero,List.append_nil]
  have:List.replicate (n-s.length) (48:Int)=(List.replicate (n-s.length) (48:UInt8)).map fun c=>(c.toNat:Int):=by rw[List.map_replicate];rfl
  rw[this,←List.map_append,qkg]
 simp only[STD,qhN,Int.toNat_natCast,e2,e3,and_self,k',e4,e5,e1,uL,e6,qDf]
 rw[Int.toNat_natCast] at e7
 rw[e7]
theorem qb5{s:List UInt8}(hd:q62 s)(hn:s≠[])(hl:s.length≤1000000000):(zX [.s s]).run=some (0,[.s (tN (val s))]):=by
 rw[qqv]
 obtain⟨j,qs,h1,h2⟩:=u7 (S:=q40) (fun k ps=>∃t:List UInt8,ps=[.s t]∧t.length=k∧q62 t∧t≠[]∧val t=val s) (fun j qs=>j=0∧qs=[.s (tN (val s))]) (n:=s.length) (by omega) (fun k ps hk ⟨t,hps,hlk,hdt,hnt,hv⟩=>by
  subst hps
  have hp:0<t.length:=List.length_pos_iff.2 hnt
  have hs0:(0:Int)<qu t:=by unfold qu;omega
  rw[qn5]
  by_cases h1:1<t.length
  ·have hs1:(1:Int)<qu t:=by unfold qu;omega
   obtain⟨c,u,rfl⟩:∃c u,t=c::u:=by
    cases t with
    | nil=>exact absurd rfl hnt
    | cons c u=>exact⟨c,u,rfl⟩
   have hsat:sat (c::u) 0=(c.toNat:Int):=by simp[sat]
   by_cases h48:c=48
   ·left
    subst h48
    have hu:u≠[]:=by intro h;subst h;simp at h1
    refine⟨u.length,[.s u],by simp at hlk;omega,?_,u,rfl,rfl,(q0R.1 hdt).2,hu,by rw[←hv,qvY]⟩
    have hsub:qet (48::u) 1 (qu (48::u))=u:=by simp[qet,qu]
    have h48':(((48:UInt8).toNat:Nat):Int)=48:=rfl
    simp only[STD,hs1,hs0,hsat,h48',Int.le_refl,and_self,Int.le_of_lt hs1,Int.le_of_lt hs0,show (0:Int)≤1 by omega,hsub]
   ·right
    have hne:¬((c.toNat:Int)=48):=fun h=>h48 (UInt8.toNat_inj.1 (by show c.toNat=48;omega))
    refine⟨0,[.s (c::u)],?_,rfl,?_⟩
    ·simp only[STD,hs1,hs0,hsat,hne,Int.le_refl,and_self]
    ·rw[←hv,←qnv hdt hnt (.inr (by simpa using h48))]
  ·right
   have hs1:¬(1:Int)<qu t:=by unfold qu;omega
   refine⟨0,[.s t],?_,rfl,?_⟩
   ·simp only[STD,hs1]
   ·rw[←hv,←qnv hdt hnt (.inl (by omega))]) (ps:=[.s s]) ⟨s,rfl,rfl,hd,hn,rfl⟩
 obtain⟨rfl,rfl⟩:=h2
 simp only[STD,h1]
theorem qB4{x y:UInt8}(hx:48≤x.toNat∧x.toNat≤57)(hy:48≤y.toNat∧y.toNat≤57)(c:Nat)(hc:c≤1)(add:Bool) :
  ∃(d:UInt8) (c':Nat),(48≤d.toNat∧d.toNat≤57)∧c'≤1∧(q1F [.i x.toNat,.i y.toNat,.i (c:Int),.b add]).run=some (0,[.i d.toNat,.i (c':Int)]) ∧
   (if add then dv x+dv y+c=dv d+10*c' else dv x+10*c'=dv y+c+dv d):=by
 have ex:j5 .i64 (qw .u8 (x.toNat:Int) 48)=(dv x:Int):=by rw[qBH (by omega),qqk (by omega)];unfold dv;omega
 have ey:j5 .i64 (qw .u8 (y.toNat:Int) 48)=(dv y:Int):=by rw[qBH (by omega),qqk (by omega)];unfold dv;omega
 have lx:=qx5 hx
 have ly:=qx5 hy
 have mk:∀v:Nat,v<10→((dch v).toNat:Int)=48+v:=fun v hv=>by rw[q2E hv];omega
 rw[qoc]
 simp only[STD,ex,ey]
 cases add with
 | true=>
  simp only[STD]
  have e1:qj .i64 (qj .i64 (dv x:Int) (dv y:Int)) (c:Int)=((dv x+dv y+c:Nat):Int):=by rw[z8 (x:=(dv x:Int)) (by omega),z8 (by omega)];omega
  rw[e1]
  by_cases h9:9<dv x+dv y+c
  ·have h9':(9:Int)<((dv x+dv y+c:Nat):Int):=by omega
   refine⟨dch (dv x+dv y+c-10),1,by rw[q2E (by omega)];omega,by omega,?_,by rw[qlp (by omega)];omega⟩
   rw[if_pos h9',z8 (by omega),w9 (by omega),qq1 (by omega),mk _ (by omega)]
   rw[show (48:Int)+((dv x+dv y+c:Nat):Int)-10=48+((dv x+dv y+c-10:Nat):Int) by omega];rfl
  ·have h9':¬(9:Int)<((dv x+dv y+c:Nat):Int):=by omega
   have h0:¬((dv x+dv y+c:Nat):Int)<0:=by omega
   refine⟨dch (dv x+dv y+c),0,by rw[q2E (by omega)];omega,by omega,?_,by rw[qlp (by omega)];omega⟩
   rw[if_neg h9',if_neg h0,z8 (by omega),qq1 (by omega),mk _ (by omega)];rfl
 | false=>
  simp only[STD]
  have e1:qw .i64 (qw .i64 (dv x:Int) (dv y:Int)) (c:Int)=(dv x:Int)-dv y-c:=by rw[w9 (x:=(dv x:Int)) (by omega),w9 (by omega)]
  rw[e1]
  have h9':¬(9:Int)<(dv x:Int)-dv y-c:=by omega
  rw[if_neg h9']
  by_cases h0:(dv x:Int)-dv y-c<0
  ·refine⟨dch (dv x+10-dv y-c),1,by rw[q2E (by omega)];omega,by omega,?_,?_⟩
   ·rw[if_pos h0,z8 (x:=48) (by omega),z8 (by omega),qq1 (by omega),mk _ (by omega)]
    rw[show (48:Int)+((dv x:Int)-dv y-c)+10=48+((dv x+10-dv y-c:Nat):Int) by omega];rfl
   ·rw[qlp (by omega)];omega
  ·refine⟨dch (dv x-dv y-c),0,by rw[q2E (by omega)];omega,by omega,?_,?_⟩
   ·rw[if_neg h0,z8 (by omega),qq1 (by omega),mk _ (by omega)]
    rw[show (48:Int)+((dv x:Int)-dv y-c)=48+((dv x-dv y-c:Nat):Int) by omega];rfl
   ·rw[qlp (by omega)];omega
theorem qyZ{s:List UInt8}{k:Nat}(h:k<s.length):s.drop k=s[k]::s.drop (k+1):=(List.drop_eq_getElem_cons h)
theorem qvD{s:List UInt8}{k:Nat}(h:k<s.length):val (s.drop k)=dv s[k]*10^(s.length-(k+1))+val (s.drop (k+1)):=by
 rw[qyZ h,q5D,List.length_drop]
theorem qst{a b:List UInt8}{n:Nat}(ha:q62 a)(hb:q62 b)(hla:a.length=n)(hlb:b.length=n)(hn:n≤100000001)(add:Bool) :
  ∃(t:List UInt8) (c:Nat),(qh q0E [.s a,.s b,.b add,.i 0,.i ((n:Int)-1),.r (rI (List.replicate n 0))]).run=some (0,[.r (rI (t.map fun c=>(c.toNat:Int)))])∧q62 t∧t.length=n ∧
   (if add then val a+val b=val t+c*10^n else val a+c*10^n=val b+val t):=by
 obtain⟨j,qs,h1,h2⟩:=u7 (S:=q0E) (fun k ps=>∃(t:List UInt8) (c:Nat),ps=[.s a,.s b,.b add,.i (c:Int),.i ((k:Int)-1),.r (rI (List.replicate k 0++t.map fun c=>(c.toNat:Int)))]∧c≤1∧q62 t∧k+t.length=n ∧
   (if add then val (a.drop k)+val (b.drop k)=val t+c*10^(n-k) else val (a.drop k)+c*10^(n-k)=val (b.drop k)+val t))
  (fun j qs=>j=0∧∃(t:List UInt8) (c:Nat),qs=[.r (rI (t.map fun c=>(c.toNat:Int)))]∧q62 t∧t.length=n∧(if add then val a+val b=val t+c*10^n else val a+c*10^n=val b+val t)) (n:=n) (by omega) (fun k ps hk ⟨t,c,hps,hc,hdt,hlt,hrel⟩=>by
  subst hps
  rw[qlU]
  cases k with
  | zero=>
   right
   have:¬(0:Int)≤((0:Nat):Int)-1:=by omega
   refine⟨0,[.r (rI (t.map fun c=>(c.toNat:Int)))],?_,rfl,t,c,rfl,hdt,by omega,by simpa using hrel⟩
   simp only[STD,this,List.replicate_zero,List.nil_append]
  | succ k=>
   left
   have e0:((k+1:Nat):Int)-1=(k:Int):=by omega
   rw[e0]
   have hka:k<a.length:=by omega
   have hkb:k<b.length:=by omega
   obtain⟨d,c',hd,hc',hrun,hcol⟩:=qB4 (qmb ha hka) (qmb hb hkb) c hc add
   have h3:(k:Int)<qu a:=by unfold qu;omega
   have h4:(k:Int)<qu b:=by unfold qu;omega
   have h5:(k:Int)<qf (rI (List.replicate (k+1) 0++t.map fun c=>(c.toNat:Int))):=by rw[qiK];simp;omega
   have h6:(List.replicate (k+1) (0:Int)++t.map fun c=>(c.toNat:Int)).set (k:Int).toNat (d.toNat:Int)=List.replicate k 0++(d::t).map fun c=>(c.toNat:Int):=by
    rw[Int.toNat_natCast,List.replicate_succ',List.append_assoc,List.set_append_right _ _ (by simp),List.length_replicate,Nat.sub_self];rfl
   have h7:qw .i64 (k:Int) 1=(k:Int)-1:=w9 (by omega)
   refine⟨k,[.s a,.s b,.b add,.i (c':Int),.i ((k:Int)-1),.r (rI (List.replicate k 0++(d::t).map fun c=>(c.toNat:Int)))],by omega,?_,d::t,c',rfl,hc',q0R.2 ⟨hd,hdt⟩,by simp;omega,?_⟩
   ·simp only[STD,uL,h3,h4,h5,and_self,qqh hka,qqh hkb,hrun,qt1,h6,h7]
   ·rw[qvD hka,qvD hkb,q5D,hla,hlb,show t.length=n-(k+1) by omega,show n-k=(n-(k+1))+1 by omega,Nat.pow_succ]
    generalize 10^(n-(k+1))=p at *
    cases add with
    | true=>
     simp only[↓reduceIte] at hrel hcol ⊢
     have:=congrArg (·*p) hcol
     simp only[Nat.add_mul] at this
     grind
    | false=>
     simp only[Bool.false_eq_true,↓reduceIte] at hrel hcol ⊢
     have:=congrArg (·*p) hcol
     simp only[Nat.add_mul] at this
     grind) (ps:=[.s a,.s b,.b add,.i 0,.i ((n:Int)-1),.r (rI (List.replicate n 0))]) ⟨[],0,by simp,by omega,qm5,by simp,by
    rw[List.drop_eq_nil_of_le (by omega),List.drop_eq_nil_of_le (by omega)];cases add<;>simp[qd8]⟩
 obtain⟨rfl,t,c,rfl,h3,h4,h5⟩:=h2
 exact⟨t,c,h1,h3,h4,h5⟩
theorem qzv{m n t c p:Nat}{add:Bool}(hm:m<p)(hn:n<p)(ht:t<p*10)(h4:if add then m+n=t+c*(p*10) else m+c*(p*10)=n+t)(hle:add=false→n≤m):t=if add then m+n else m-n:=by
 have hc0:c=0:=by
  rcases Nat.eq_zero_or_pos c with h|h
  ·exact h
  ·exfalso
   have h5:1*(p*10)≤c*(p*10):=Nat.mul_le_mul_right (p*10) h
   cases add with
   | true=>simp only[↓reduceIte] at h4;omega
   | false=>simp only[Bool.false_eq_true,↓reduceIte] at h4;have:=hle rfl;omega
 subst hc0
 cases add with
 | true=>simp only[↓reduceIte] at h4 ⊢;omega
 | false=>simp only[Bool.false_eq_true,↓reduceIte] at h4 ⊢;omega
theorem qrp(a b:Nat):qer (a:Int) (b:Int)=((max a b:Nat):Int):=by unfold qer;split<;>omega
theorem q8g(m n:Nat)(add:Bool)(hm:(tN m).length≤100000000)(hn:(tN n).length≤100000000)(hle:add=false→n≤m) :
  (vP [.s (tN m),.s (tN n),.b add]).run=some (0,[.s (tN (if add then m+n else m-n))]):=by
 rw[qoP]
 obtain⟨N,hN⟩:∃N,N=max (tN m).length (tN n).length+1:=⟨_,rfl⟩
 have l1:(tN m).length≤N-1:=by omega
 have l2:(tN n).length≤N-1:=by omega
 have l3:N=N-1+1:=by omega
 have p1:10^(tN m).length≤10^(N-1):=Nat.pow_le_pow_right (Nat.succ_pos 9) l1
 have p2:10^(tN n).length≤10^(N-1):=Nat.pow_le_pow_right (Nat.succ_pos 9) l2
 have p3:10^N=10^(N-1)*10:=(congrArg (10^·) l3).trans (Nat.pow_succ (n:=10) (m:=N-1))
 have e0:qj .i64 (qer (qu (tN m)) (qu (tN n))) 1=(N:Int):=by
  unfold qu;rw[qrp,z8 (by omega)];omega
 have e1:qw .i64 (N:Int) 1=(N:Int)-1:=w9 (by omega)
 have e2:(0:Int)≤(N:Int)∧(N:Int)≤140737488355328:=by omega
 have wa:=qly (tN m) N (by omega) (by omega) (by omega)
 have wb:=qly (tN n) N (by omega) (by omega) (by omega)
 have hda:q62 (List.replicate (N-(tN m).length) 48++tN m):=q8f.2 ⟨qkw _,wl _⟩
 have hdb:q62 (List.replicate (N-(tN n).length) 48++tN n):=q8f.2 ⟨qkw _,wl _⟩
 obtain⟨t,c,h1,h2,h3,h4⟩:=qst (n:=N) hda hdb (by simp;omega) (by simp;omega) (by omega) add
 rw[qnc,qnc,q0N,q0N] at h4
 have ht:t≠[]:=by intro h;subst h;simp at h3;omega
 have hb:=qb5 h2 ht (by omega)
 have e3:q3x (N:Int) [.i 0]=rI (List.replicate N 0):=by rw[qhN];rfl
 have hvm:=q68 (wl m)
 have hvn:=q68 (wl n)
 have hvt:=q68 h2
 rw[q0N] at hvm hvn
 rw[h3] at hvt
 rw[p3] at h4 hvt
 have q1:=Nat.lt_of_lt_of_le hvm p1
 have q2:=Nat.lt_of_lt_of_le hvn p2
 clear hvm hvn p1 p2 p3
 have hval:val t=if add then m+n else m-n:=qzv q1 q2 hvt h4 hle
 rw[hval] at hb
 simp only[STD,e0,wa,wb,e1,e2,and_self,e3,h1,qkg,hb]
theorem qup(m n:Nat):(tN (m+n)).length≤max (tN m).length (tN n).length+1:=by
 have h1:=q68 (wl m)
 have h2:=q68 (wl n)
 rw[q0N] at h1 h2
 have p1:10^(tN m).length≤10^(max (tN m).length (tN n).length):=Nat.pow_le_pow_right (by omega) (by omega)
 have p2:10^(tN n).length≤10^(max (tN m).length (tN n).length):=Nat.pow_le_pow_right (by omega) (by omega)
 exact q5f _ _ (by rw[Nat.pow_succ];omega)
theorem qnV(m n:Nat):(tN (m*n)).length≤(tN m).length+(tN n).length:=by
 have h1:=q68 (wl m)
 have h2:=q68 (wl n)
 rw[q0N] at h1 h2
 have h3:=qgI m
 have h4:=qgI n
 have:m*n<10^((tN m).length+(tN n).length):=by
  rw[Nat.pow_add]
  exact Nat.mul_lt_mul'' h1 h2
 have:=q5f ((tN m).length+(tN n).length-1) (m*n) (by rwa [show (tN m).length+(tN n).length-1+1=(tN m).length+(tN n).length by omega])
 omega
def nl(m:Int):Nat:=(tN m.natAbs).length
theorem qmX(m:Int):0<nl m:=qgI _
theorem qne(m:Int):nl (-m)=nl m:=by unfold nl;rw[Int.natAbs_neg]
theorem qt3(m n:Int):nl (m+n)≤max (nl m) (nl n)+1:=by
 unfold nl
 exact Nat.le_trans (ko (Int.natAbs_add_le m n)) (qup _ _)
theorem q48(m n:Int):nl (m*n)≤nl m+nl n:=by
 unfold nl;rw[Int.natAbs_mul];exact qnV _ _
theorem qCS{m:Int}{k:Nat}(h:nl m≤k):m.natAbs<10^k:=q5J h
theorem qtg(m n:Int)(hm:nl m≤100000000-1)(hn:nl n≤100000000-1):(q7h [.s (tI m),.s (tI n)]).run=some (0,[.s (tI (m+n))]):=by
 rw[qqT]
 have hm':(tN m.natAbs).length≤100000000-1:=hm
 have hn':(tN n.natAbs).length≤100000000-1:=hn
 have lt:=qt3 m n
 by_cases hb:(tN m.natAbs).length≤18∧(tN n.natAbs).length≤18
 ·have b1:m.natAbs<1000000000000000000:=Nat.lt_of_lt_of_le (q5J hb.1) (by decide)
  have b2:n.natAbs<1000000000000000000:=Nat.lt_of_lt_of_le (q5J hb.2) (by decide)
  have e1:qj .i64 m n=m+n:=z8 (by omega)
  have e2:=uU (m+n) (by omega) (by omega)
  clear b1 b2
  have hbr:=q60 m n
  rw[if_pos hb] at hbr
  simp only[STD,hbr,e1,e2]
 ·have hbr:=q60 m n
  rw[if_neg hb] at hbr
  have hP:=q8g m.natAbs n.natAbs true (by omega) (by omega) (fun h=>by cases h)
  simp only[↓reduceIte] at hP
  simp only[STD,hbr,wF,jK,qfg,decide_eq_decide,hP]
  have la:=qup m.natAbs n.natAbs
  by_cases hs:(m<0)=(n<0)
  ·have hs':(m<0↔n<0):=by rw[hs]
   rw[if_pos hs']
   simp only[q01 _ _ (show (tN (m.natAbs+n.natAbs)).length≤100000000 by omega),STD]
   have e:(if m<0 then -((m.natAbs+n.natAbs:Nat):Int) else ((m.natAbs+n.natAbs:Nat):Int))=m+n:=by
    by_cases h:m<0
    ·rw[if_pos h];have:=hs'.1 h;omega
    ·rw[if_neg h];have:¬n<0:=fun q=>h (hs'.2 q);omega
   rw[e]
  ·have hs':¬(m<0↔n<0):=fun h=>hs (propext h)
   rw[if_neg hs']
   by_cases hlt:m.natAbs<n.natAbs
   ·have hP2:=q8g n.natAbs m.natAbs false (by omega) (by omega) (fun _=>by omega)
    simp only[Bool.false_eq_true,↓reduceIte] at hP2
    have ls:(tN (n.natAbs-m.natAbs)).length≤100000000:=Nat.le_trans (ko (Nat.sub_le _ _)) (by omega)
    simp only[STD,hlt,hP2,q01 _ _ ls]
    have e:(if n<0 then -((n.natAbs-m.natAbs:Nat):Int) else ((n.natAbs-m.natAbs:Nat):Int))=m+n:=by
     by_cases h:n<0
     ·rw[if_pos h];have:¬m<0:=fun q=>hs' ⟨fun _=>h,fun _=>q⟩;omega
     ·rw[if_neg h];have:m<0:=by
       rcases Decidable.em (m<0) with q|q
       ·exact q
       ·exact absurd ⟨fun x=>absurd x q,fun x=>absurd x h⟩ hs'
      omega
    rw[e]
   ·have hP2:=q8g m.natAbs n.natAbs false (by omega) (by omega) (fun _=>by omega)
    simp only[Bool.false_eq_true,↓reduceIte] at hP2
    have ls:(tN (m.natAbs-n.natAbs)).length≤100000000:=Nat.le_trans (ko (Nat.sub_le _ _)) (by omega)
    simp only[STD,hlt,hP2,q01 _ _ ls]
    have e:(if m<0 then -((m.natAbs-n.natAbs:Nat):Int) else ((m.natAbs-n.natAbs:Nat):Int))=m+n:=by
     by_cases h:m<0
     ·rw[if_pos h];have:¬n<0:=fun q=>hs' ⟨fun _=>q,fun _=>h⟩;omega
     ·rw[if_neg h];have:n<0:=by
       rcases Decidable.em (n<0) with q|q
       ·exact q
       ·exact absurd ⟨fun x=>absurd x h,fun x=>absurd x q⟩ hs'
      omega
    rw[e]
theorem qjK(m n:Int)(hm:nl m≤100000000-1)(hn:nl n≤100000000-1):(ki [.s (tI m),.s (tI n)]).run=some (0,[.s (tI (m-n))]):=by
 rw[qoU]
 have ht:=qbR n (by have:(tN n.natAbs).length≤100000000-1:=hn;omega)
 have hp:=qtg m (-n) hm (by rw[qne];exact hn)
 rw[←Int.sub_eq_add_neg] at hp
 simp only[STD,ht,hp]
def sgn(n:Int):Int:=if n<0 then -1 else if n=0 then 0 else 1
end Go.Eng

namespace Go.Eng
def wv(l:List Int):Int:=l.foldl (fun a x=>10*a+x) 0
theorem qri:∀(t:List Int) (a:Int),t.foldl (fun a x=>10*a+x) a=a*10^t.length+wv t
 | [],a=>by simp[wv]
 | c::t,a=>by
  have h1:=qri t (10*a+c)
  have h2:=qri t (10*0+c)
  have h3:wv (c::t)=t.foldl (fun a x=>10*a+x) (10*0+c):=rfl
  rw[h3,h2,List.foldl_cons,h1,List.length_cons,Int.pow_succ]
  grind
theorem qkz(c:Int)(t:List Int):wv (c::t)=c*10^t.length+wv t:=by
 have h3:wv (c::t)=t.foldl (fun a x=>10*a+x) (10*0+c):=rfl
 rw[h3,qri];grind
theorem qDA:wv []=0:=rfl
theorem qAE(n:Nat):wv (List.replicate n 0)=0:=by
 induction n with
 | zero=>rfl
 | succ n ih=>rw[List.replicate_succ,qkz,ih];simp
theorem qBz:∀(l:List Int) (j:Nat) (hj:j<l.length) (y:Int),wv (l.set j y)=wv l+(y-l[j])*10^(l.length-(j+1))
 | [],j,hj,y=>by simp at hj
 | c::t,0,hj,y=>by
  rw[List.set_cons_zero,qkz,qkz]
  simp only[List.getElem_cons_zero,List.length_cons,Nat.add_sub_cancel,Nat.zero_add]
  grind
 | c::t,j+1,hj,y=>by
  have hj':j<t.length:=by simpa using hj
  rw[List.set_cons_succ,qkz,qkz,qBz t j hj' y,List.length_set]
  simp only[List.getElem_cons_succ,List.length_cons]
  rw[show t.length+1-(j+1+1)=t.length-(j+1) by omega]
  grind
theorem qCi{l:List Int}{k:Nat}(h:k<l.length):wv (l.drop k)=l[k]*10^(l.length-(k+1))+wv (l.drop (k+1)):=by
 rw[List.drop_eq_getElem_cons h,qkz,List.length_drop]
theorem jz{l:List Int}{j:Nat}(h:j<l.length):l.getD j 0=l[j]:=by simp[List.getD_eq_getElem?_getD,h]
theorem qn9{n i:Nat}(h:i<n):(10:Int)^(n-i)=10^(n-(i+1))*10:=by
 rw[←Int.pow_succ];congr 1;omega
theorem qxY{V A Q B:Int}:V*(Q*10)*B+A*B*Q=(10*V+A)*Q*B:=by grind
theorem qBY{P Q A V y:Int}:A*(10*V+y)*P*Q=A*V*(P*10)*Q+A*y*(P*Q):=by grind
theorem qrS{l:List Int}{j:Nat}{y B:Int}(h:∀x,x∈l→0≤x∧x≤B)(hy:0≤y∧y≤B):∀x,x∈l.set j y→0≤x∧x≤B:=by
 intro x hx
 rcases List.mem_or_eq_of_mem_set hx with h1|h1
 ·exact h x h1
 ·rw[h1];exact hy
theorem qxi{a b:List UInt8}(ha:q62 a)(hb:q62 b){i:Nat}(hi:i<a.length)(hla:a.length≤1000000)(hlb:b.length≤1000000){cols:List Int}(hc:cols.length=a.length+b.length){C:Nat}(hC:C≤1000000000000)
  (hB:∀x,x∈cols→0≤x∧x≤81*(C:Int)) :
  ∃cols':List Int,(qh uw [.s a,.s b,.i (i:Int),.i 0,.r (rI cols)]).run=some (0,[.s a,.s b,.i (i:Int),.r (rI cols')])∧cols'.length=a.length+b.length ∧
   (∀x,x∈cols'→0≤x∧x≤81*((C+b.length:Nat):Int))∧wv cols'=wv cols+(dv a[i]:Int)*(val b:Int)*10^(a.length-(i+1)):=by
 obtain⟨j,qs,h1,h2⟩:=u7 (S:=uw) (fun K ps=>∃(k:Nat) (cs:List Int),K+k=b.length∧ps=[.s a,.s b,.i (i:Int),.i (k:Int),.r (rI cs)]∧cs.length=a.length+b.length ∧
   (∀x,x∈cs→0≤x∧x≤81*((C+k:Nat):Int))∧wv cs=wv cols+(dv a[i]:Int)*(val (b.take k):Int)*10^(b.length-k)*10^(a.length-(i+1)))
  (fun j qs=>j=0∧∃cs:List Int,qs=[.s a,.s b,.i (i:Int),.r (rI cs)]∧cs.length=a.length+b.length ∧
   (∀x,x∈cs→0≤x∧x≤81*((C+b.length:Nat):Int))∧wv cs=wv cols+(dv a[i]:Int)*(val b:Int)*10^(a.length-(i+1))) (n:=b.length) (by omega) (fun K ps hK ⟨k,cs,hkK,hps,hlen,hbd,hw⟩=>by
  subst hps
  rw[qjD]
  cases K with
  | zero=>
   right
   obtain rfl:k=b.length:=by omega
   have:¬(b.length:Int)<qu b:=by unfold qu;omega
   refine⟨0,[.s a,.s b,.i (i:Int),.r (rI cs)],?_,rfl,cs,rfl,hlen,hbd,?_⟩
   ·simp only[STD,this]
   ·rw[hw,List.take_length,Nat.sub_self];grind
  | succ K=>
   left
   have hk:k<b.length:=by omega
   have g1:(k:Int)<qu b:=by unfold qu;omega
   have g2:(i:Int)<qu a:=by unfold qu;omega
   have e1:qj .i64 (qj .i64 (i:Int) (k:Int)) 1=((i+k+1:Nat):Int):=by
    rw[z8 (x:=(i:Int)) (by omega),z8 (by omega)];omega
   have hj:i+k+1<cs.length:=by omega
   have g3:((i+k+1:Nat):Int)<qf (rI cs):=by rw[qiK];omega
   obtain⟨da,la⟩:=qu6 ha hi
   obtain⟨db,lb⟩:=qu6 hb hk
   have hx:=hbd _ (List.getElem_mem hj)
   have hmul:dv a[i]*dv b[k]≤9*9:=Nat.mul_le_mul (by omega) (by omega)
   have e2:uk .i64 (dv a[i]:Int) (dv b[k]:Int)=((dv a[i]*dv b[k]:Nat):Int):=by
    rw[q19 (by rw[←Int.natCast_mul];omega)];simp
   have e3:qj .i64 cs[i+k+1] ((dv a[i]*dv b[k]:Nat):Int)=cs[i+k+1]+((dv a[i]*dv b[k]:Nat):Int):=z8 (by omega)
   have e4:=q2U hk (by omega)
   refine⟨K,[.s a,.s b,.i (i:Int),.i ((k+1:Nat):Int),.r (rI (cs.set (i+k+1) (cs[i+k+1]+((dv a[i]*dv b[k]:Nat):Int))))],by omega,?_,k+1,_,by omega,rfl,by simpa using hlen,?_,?_⟩
   ·simp only[STD,g1,g2,uL,and_self,e1,g3,da,db,e2,qC8,Int.toNat_natCast,jz hj,e3,e4,qt1]
   ·refine qrS (fun x hx=>?_) ?_
    ·have:=hbd x hx;omega
    ·omega
   ·rw[qBz _ _ hj,hw,q8i hk,hlen]
    have p1:=qn9 hk
    have p2:(10:Int)^(a.length+b.length-(i+k+1+1))=10^(b.length-(k+1))*10^(a.length-(i+1)):=by
     rw[←Int.pow_add];congr 1;omega
    rw[p1,p2]
    generalize (10:Int)^(b.length-(k+1))=P
    generalize (10:Int)^(a.length-(i+1))=Q
    simp only[Int.natCast_add,Int.natCast_mul]
    generalize (dv a[i]:Int)=A
    generalize (dv b[k]:Int)=y
    generalize (val (b.take k):Int)=V
    generalize cs[i+k+1]=c
    have:=qBY (P:=P) (Q:=Q) (A:=A) (V:=V) (y:=y)
    grind) (ps:=[.s a,.s b,.i (i:Int),.i 0,.r (rI cols)]) ⟨0,cols,by omega,rfl,hc,by simpa using hB,by simp[qd8]⟩
 obtain⟨rfl,cs,rfl,h3,h4,h5⟩:=h2
 exact⟨cs,h1,h3,h4,h5⟩
theorem qxo{a b:List UInt8}(ha:q62 a)(hb:q62 b)(hla:a.length≤1000000)(hlb:b.length≤1000000) :
  ∃cols:List Int,(qh ur [.s a,.s b,.i 0,.r (rI (List.replicate (a.length+b.length) 0))]).run=some (0,[.r (rI cols)])∧cols.length=a.length+b.length ∧
   (∀x,x∈cols→0≤x∧x≤81000000000000)∧wv cols=(val a:Int)*(val b:Int):=by
 have hsq:∀i,i≤a.length→i*b.length≤1000000000000:=fun i hi=>by
  have:=Nat.mul_le_mul (show i≤1000000 by omega) hlb;omega
 obtain⟨j,qs,h1,h2⟩:=u7 (S:=ur) (fun K ps=>∃(i:Nat) (cs:List Int),K+i=a.length∧ps=[.s a,.s b,.i (i:Int),.r (rI cs)]∧cs.length=a.length+b.length ∧
   (∀x,x∈cs→0≤x∧x≤81*((i*b.length:Nat):Int))∧wv cs=(val (a.take i):Int)*10^(a.length-i)*(val b:Int))
  (fun j qs=>j=0∧∃cs:List Int,qs=[.r (rI cs)]∧cs.length=a.length+b.length∧(∀x,x∈cs→0≤x∧x≤81000000000000)∧wv cs=(val a:Int)*(val b:Int)) (n:=a.length) (by omega) (fun K ps hK ⟨i,cs,hiK,hps,hlen,hbd,hw⟩=>by
  subst hps
  rw[qig]
  have hs:=hsq i (by omega)
  cases K with
  | zero=>
   right
   obtain rfl:i=a.length:=by omega
   have:¬(a.length:Int)<qu a:=by unfold qu;omega
   refine⟨0,[.r (rI cs)],?_,rfl,cs,rfl,hlen,fun x hx=>?_,?_⟩
   ·simp only[STD,this]
   ·have:=hbd x hx;omega
   ·rw[hw,List.take_length,Nat.sub_self];grind
  | succ K=>
   left
   have hi:i<a.length:=by omega
   have g1:(i:Int)<qu a:=by unfold qu;omega
   obtain⟨cs',q1,q2,q3,q4⟩:=qxi ha hb hi hla hlb hlen (C:=i*b.length) hs hbd
   have e4:=q2U hi (by omega)
   refine⟨K,[.s a,.s b,.i ((i+1:Nat):Int),.r (rI cs')],by omega,?_,i+1,cs',by omega,rfl,q2,?_,?_⟩
   ·simp only[STD,g1,q1,e4]
   ·rw[Nat.add_mul,Nat.one_mul];exact q3
   ·rw[q4,hw,q8i hi]
    rw[qn9 hi,Int.natCast_add,Int.natCast_mul]
    exact qxY) (ps:=[.s a,.s b,.i 0,.r (rI (List.replicate (a.length+b.length) 0))]) ⟨0,List.replicate (a.length+b.length) 0,by omega,rfl,by simp,fun x hx=>by rw[(List.mem_replicate.1 hx).2];omega,by rw[qAE];simp[qd8]⟩
 obtain⟨rfl,cs,rfl,h3,h4,h5⟩:=h2
 exact⟨cs,h1,h3,h4,h5⟩
theorem qxk{cols:List Int}{N:Nat}(hl:cols.length=N)(hN:N≤2000000)(hB:∀x,x∈cols→0≤x∧x≤81000000000000) :
  ∃(t:List UInt8) (c:Nat),(qh ya [.i 0,.i ((N:Int)-1),.r (rI cols),.r (rI (List.replicate N 0))]).run=some (0,[.r (rI (t.map fun c=>(c.toNat:Int)))])∧q62 t∧t.length=N∧wv cols=(val t:Int)+(c:Int)*10^N:=by
 obtain⟨j,qs,h1,h2⟩:=u7 (S:=ya) (fun K ps=>∃(t:List UInt8) (c:Nat),ps=[.i (c:Int),.i ((K:Int)-1),.r (rI cols),.r (rI (List.replicate K 0++t.map fun c=>(c.toNat:Int)))]∧c≤81000000000000∧q62 t∧K+t.length=N ∧
   wv (cols.drop K)=(val t:Int)+(c:Int)*10^(N-K))
  (fun j qs=>j=0∧∃(t:List UInt8) (c:Nat),qs=[.r (rI (t.map fun c=>(c.toNat:Int)))]∧q62 t∧t.length=N∧wv cols=(val t:Int)+(c:Int)*10^N) (n:=N) (by omega) (fun K ps hK ⟨t,c,hps,hc,hdt,hlt,hrel⟩=>by
  subst hps
  rw[qhT]
  cases K with
  | zero=>
   right
   have:¬(0:Int)≤((0:Nat):Int)-1:=by omega
   refine⟨0,[.r (rI (t.map fun c=>(c.toNat:Int)))],?_,rfl,t,c,rfl,hdt,by omega,by simpa using hrel⟩
   simp only[STD,this,List.replicate_zero,List.nil_append]
  | succ K=>
   left
   have e0:((K+1:Nat):Int)-1=(K:Int):=by omega
   rw[e0]
   have hk:K<cols.length:=by omega
   obtain⟨x,hx⟩:∃x:Nat,cols[K]=(x:Int)∧x≤81000000000000:=by
    have:=hB _ (List.getElem_mem hk)
    exact⟨cols[K].toNat,by omega,by omega⟩
   have e1:qj .i64 (c:Int) (x:Int)=((c+x:Nat):Int):=by rw[z8 (by omega)];omega
   have e2:u6 .i64 ((c+x:Nat):Int) 10=(((c+x)/10:Nat):Int):=qwg (b:=10) (by omega)
   have e3:q69 ((c+x:Nat):Int) 10=(((c+x)%10:Nat):Int):=qmd _ 10
   have e4:j5 .u8 (qj .i64 48 (((c+x)%10:Nat):Int))=((dch ((c+x)%10)).toNat:Int):=by
    rw[z8 (by omega),qq1 (by omega),q2E (by omega)];omega
   have h3:(K:Int)<qf (rI cols):=by rw[qiK];omega
   have h5:(K:Int)<qf (rI (List.replicate (K+1) 0++t.map fun c=>(c.toNat:Int))):=by rw[qiK];simp;omega
   have h6:(List.replicate (K+1) (0:Int)++t.map fun c=>(c.toNat:Int)).set K ((dch ((c+x)%10)).toNat:Int)=List.replicate K 0++(dch ((c+x)%10)::t).map fun c=>(c.toNat:Int):=by
    rw[List.replicate_succ',List.append_assoc,List.set_append_right _ _ (by simp),List.length_replicate,Nat.sub_self];rfl
   have h7:qw .i64 (K:Int) 1=(K:Int)-1:=w9 (by omega)
   refine⟨K,[.i (((c+x)/10:Nat):Int),.i ((K:Int)-1),.r (rI cols),.r (rI (List.replicate K 0++(dch ((c+x)%10)::t).map fun c=>(c.toNat:Int)))],by omega,?_,_,_,rfl,by omega,q0R.2 ⟨by rw[q2E (by omega)];omega,hdt⟩,by simp;omega,?_⟩
   ·simp only[STD,uL,h3,h5,and_self,qC8,Int.toNat_natCast,jz hk,hx.1,e1,e2,e3,e4,qt1,h6,h7]
   ·rw[qCi hk,hrel,q5D,hx.1,hl,qlp (by omega),show t.length=N-(K+1) by omega]
    rw[qn9 (show K<N by omega)]
    have e:((c+x:Nat):Int)=10*(((c+x)/10:Nat):Int)+(((c+x)%10:Nat):Int):=by omega
    simp only[Int.natCast_add,Int.natCast_mul,Int.natCast_pow] at e ⊢
    generalize hP:(10:Int)^(N-(K+1))=P at *
    generalize (((c+x)/10:Nat):Int)=q at *
    generalize (((c+x)%10:Nat):Int)=r at *
    have:(c:Int)=10*q+r-x:=by omega
    rw[this];grind) (ps:=[.i 0,.i ((N:Int)-1),.r (rI cols),.r (rI (List.replicate N 0))]) ⟨[],0,by simp,by omega,qm5,by simp,by
    rw[List.drop_eq_nil_of_le (by omega)];simp[qd8,qDA]⟩
 obtain⟨rfl,t,c,rfl,h3,h4,h5⟩:=h2
 exact⟨t,c,h1,h3,h4,h5⟩
theorem qnU(m n:Nat)(hm:(tN m).length≤1000000)(hn:(tN n).length≤1000000):(q0H [.s (tN m),.s (tN n)]).run=some (0,[.s (tN (m*n))]):=by
 rw[qlL]
 obtain⟨cols,c1,c2,c3,c4⟩:=qxo (wl m) (wl n) hm hn
 obtain⟨N,hN⟩:∃N,N=(tN m).length+(tN n).length:=⟨_,rfl⟩
 have hp:=qgI m
 rw[←hN] at c1 c2
 obtain⟨t,c,t1,t2,t3,t4⟩:=qxk c2 (by omega) c3
 have ht:t≠[]:=by intro h;subst h;simp at t3;omega
 have hb:=qb5 t2 ht (by omega)
 have e0:qj .i64 (qu (tN m)) (qu (tN n))=(N:Int):=by unfold qu;rw[z8 (by omega)];omega
 have e1:(0:Int)≤(N:Int)∧(N:Int)≤17592186044416:=by omega
 have e1':(0:Int)≤(N:Int)∧(N:Int)≤140737488355328:=by omega
 have e2:q3x (N:Int) [.i 0]=rI (List.replicate N 0):=by rw[qhN];rfl
 have e3:qf (rI cols)=(N:Int):=by rw[qiK,c2]
 have e4:qw .i64 (N:Int) 1=(N:Int)-1:=w9 (by omega)
 have hval:val t=m*n:=by
  have v1:=q68 (wl m)
  have v2:=q68 (wl n)
  have v3:=q68 t2
  rw[t3] at v3
  rw[c4,q0N,q0N] at t4
  rw[q0N] at v1 v2
  have v4:m*n<10^N:=by rw[hN,Nat.pow_add];exact Nat.mul_lt_mul'' v1 v2
  have t5:m*n=val t+c*10^N:=by
   have:((m*n:Nat):Int)=((val t+c*10^N:Nat):Int):=by simpa using t4
   omega
  clear t4 c4 v1 v2
  generalize 10^N=P at *
  rcases Nat.eq_zero_or_pos c with h|h
  ·subst h;omega
  ·have:=Nat.mul_le_mul_right P h;omega
 rw[hval] at hb
 simp only[STD,e0,e1,e1',and_self,e2,c1,e3,e4,t1,qkg,hb]
theorem qqo(m n:Int)(hm:nl m≤1000000)(hn:nl n≤1000000):(q16 [.s (tI m),.s (tI n)]).run=some (0,[.s (tI (m*n))]):=by
 rw[qoW]
 have hm':(tN m.natAbs).length≤1000000:=hm
 have hn':(tN n.natAbs).length≤1000000:=hn
 have hbr:=q60 m n
 have hP:=qnU m.natAbs n.natAbs hm' hn'
 have lm:=qnV m.natAbs n.natAbs
 have hS:=fun b=>q01 (m.natAbs*n.natAbs) b (by omega)
 have tm:=qt0 m
 have tn:=qt0 n
 have e0:qj .i64 (qu (tI m)) (qu (tI n))=(((tI m).length+(tI n).length:Nat):Int):=by unfold qu;rw[z8 (by omega)];omega
 have sg:(if (¬((m<0)=(n<0))) then -((m.natAbs*n.natAbs:Nat):Int) else ((m.natAbs*n.natAbs:Nat):Int))=m*n:=by
  by_cases h1:m<0<;>by_cases h2:n<0
  ·simp only[h1,h2,not_true_eq_false,if_false]
   rw[Int.natCast_mul,show (m.natAbs:Int)=-m by omega,show (n.natAbs:Int)=-n by omega];grind
  ·simp only[h1,h2]
   rw[if_pos (by simp),Int.natCast_mul,show (m.natAbs:Int)=-m by omega,show (n.natAbs:Int)=n by omega];grind
  ·simp only[h1,h2]
   rw[if_pos (by simp),Int.natCast_mul,show (m.natAbs:Int)=m by omega,show (n.natAbs:Int)=-n by omega];grind
  ·simp only[h1,h2,not_true_eq_false,if_false]
   rw[Int.natCast_mul,show (m.natAbs:Int)=m by omega,show (n.natAbs:Int)=n by omega]
 by_cases hb:(tN m.natAbs).length≤18∧(tN n.natAbs).length≤18
 ·rw[if_pos hb] at hbr
  by_cases h18:(tI m).length+(tI n).length≤18
  ·have h18':(((tI m).length+(tI n).length:Nat):Int)≤18:=by omega
   have lmn:(tN (m*n).natAbs).length≤18:=by
    rw[Int.natAbs_mul]
    have h3:∀q:Int,(tN q.natAbs).length≤(tI q).length:=fun q=>by unfold tI;split<;>simp
    have:=h3 m;have:=h3 n;omega
   have b1:(m*n).natAbs<1000000000000000000:=Nat.lt_of_lt_of_le (q5J lmn) (by decide)
   have e1:uk .i64 m n=m*n:=q19 (by omega)
   have e2:=uU (m*n) (by omega) (by omega)
   clear b1
   simp only[STD,hbr,e0,h18',e1,e2]
  ·have h18':¬(((tI m).length+(tI n).length:Nat):Int)≤18:=by omega
   simp only[STD,hbr,e0,h18',wF,hP,jK,hS,decide_eq_decide]
   rw[←sg];simp only[eq_iff_iff]
 ·rw[if_neg hb] at hbr
  simp only[STD,hbr,wF,hP,jK,hS,decide_eq_decide]
  rw[←sg];simp only[eq_iff_iff]
end Go.Eng

namespace Go.Eng
theorem qDv{x:Int}(h:0≤x∧x≤254):qj .u8 x 1=x+1:=by
 unfold qj IntKind.wrap
 simp[IntKind.signed,IntKind.bits];omega
theorem qv3(a q:List UInt8)(i:Int){b x0:Nat}(hb:0<b)(hx:x0<10*b)(lb:(tN b).length≤1000000)(lx:(tN x0).length≤1000002) :
  (qh yj [.s a,.s (tN b),.s q,.s (tN x0),.i i,.i 48]).run=some (0,[.s a,.s (tN b),.s q,.s (tN (x0%b)),.i i,.i (48+((x0/b:Nat):Int))]):=by
 obtain⟨j,qs,h1,h2⟩:=u7 (S:=yj) (fun k ps=>∃x c:Nat,ps=[.s a,.s (tN b),.s q,.s (tN x),.i i,.i (48+(c:Int))]∧x+c*b=x0∧c+k=10∧c≤9)
  (fun j qs=>j=0∧qs=[.s a,.s (tN b),.s q,.s (tN (x0%b)),.i i,.i (48+((x0/b:Nat):Int))]) (n:=10) (by omega) (fun k ps hk ⟨x,c,hps,he,hck,hc⟩=>by
  subst hps
  rw[qhH]
  have hxl:x≤x0:=by rw[←he];exact Nat.le_add_right _ _
  have hP:=q8g x b false (by have:=ko hxl;omega) (by omega)
  by_cases hlt:x<b
  ·right
   refine⟨0,[.s a,.s (tN b),.s q,.s (tN x),.i i,.i (48+(c:Int))],?_,rfl,?_⟩
   ·simp only[STD,qfg,hlt,decide_true]
   ·have e1:x0/b=c:=by rw[←he,Nat.add_mul_div_right _ _ hb,Nat.div_eq_of_lt hlt,Nat.zero_add]
    have e2:x0%b=x:=by rw[←he,Nat.add_mul_mod_self_right,Nat.mod_eq_of_lt hlt]
    rw[e1,e2]
  ·left
   have hge:b≤x:=by omega
   have hP:=hP (fun _=>hge)
   simp only[Bool.false_eq_true,↓reduceIte] at hP
   have hc9:c+1<10:=by
    apply Nat.lt_of_mul_lt_mul_right (a:=b)
    have:(c+1)*b=c*b+b:=Nat.succ_mul c b
    omega
   refine⟨k-1,[.s a,.s (tN b),.s q,.s (tN (x-b)),.i i,.i (48+((c+1:Nat):Int))],by omega,?_,x-b,c+1,rfl,?_,by omega,by omega⟩
   ·simp only[STD,qfg,hlt,decide_false,hP,qDv (show (0:Int)≤48+(c:Int)∧48+(c:Int)≤254 by omega)]
    rw[show (48+(c:Int)+1)=48+((c+1:Nat):Int) by omega]
   ·have:(c+1)*b=c*b+b:=Nat.succ_mul c b
    omega) (ps:=[.s a,.s (tN b),.s q,.s (tN x0),.i i,.i 48]) ⟨x0,0,by simp,by simp,by omega,by omega⟩
 obtain⟨rfl,rfl⟩:=h2
 exact h1
theorem qAf{s:List UInt8}{i:Nat}(h:i<s.length):qet s (i:Int) (((i+1:Nat):Int))=[s[i]]:=by
 unfold qet
 simp only[Int.toNat_natCast]
 rw[List.take_succ_eq_append_getElem h,List.drop_append_of_le_length (by simp;omega)]
 rw[List.drop_of_length_le (by simp;omega)];rfl
theorem qnf{m n:Nat}(hn:0<n)(lm:(tN m).length≤1000000)(ln:(tN n).length≤1000000) :
  (q2D [.s (tN m),.s (tN n)]).run=some (0,[.s (tN (m/n)),.s (tN (m%n))]):=by
 rw[qlD]
 have hdm:=wl m
 obtain⟨j,qs,h1,rfl,q,h2,h3,h4,h5⟩:=u7 (S:=q0p) (fun k ps=>∃(i r:Nat) (q:List UInt8),ps=[.s (tN m),.s (tN n),.s q,.s (tN r),.i (i:Int)]∧i+k=(tN m).length∧q.length=i∧q62 q∧val q*n+r=val ((tN m).take i)∧r<n)
  (fun j qs=>j=0∧∃q:List UInt8,qs=[.s q,.s (tN (m%n))]∧q.length=(tN m).length∧q62 q∧val q=m/n) (n:=(tN m).length) (by omega) (fun k ps hk ⟨i,r,q,hps,hik,hql,hdq,hv,hr⟩=>by
  subst hps
  rw[qiX]
  by_cases hi:i<(tN m).length
  ·left
   have hc:=qmb hdm hi
   have hw:qj .i64 (i:Int) 1=((i+1:Nat):Int):=by rw[z8 (by omega)];omega
   have hlr:(tN r).length≤(tN n).length:=ko (by omega)
   have hd10:=qx5 hc
   have hB:=qb5 (s:=tN r++[(tN m)[i]]) (q8f.2 ⟨wl r,fun c hcc=>by simp at hcc;subst hcc;exact hc⟩) (by simp) (by simp;omega)
   rw[qj8,q0N] at hB
   have lx:(tN (10*r+dv (tN m)[i])).length≤1000002:=by
    have h10:10*r+dv (tN m)[i]≤10*n:=by omega
    have e10:(tN (10*n)).length≤(tN 10).length+(tN n).length:=qnV 10 n
    have e11:(tN 10).length=2:=by decide
    have:=ko h10
    omega
   have hI:=qv3 (tN m) q (i:Int) hn (x0:=10*r+dv (tN m)[i]) (by omega) ln lx
   have hq10:(10*r+dv (tN m)[i])/n<10:=by
    rw[Nat.div_lt_iff_lt_mul hn];omega
   have hd1:(i:Int)<qu (tN m):=by unfold qu;omega
   have hd2:((i+1:Nat):Int)≤qu (tN m):=by unfold qu;omega
   have hrs:qgk [[.i (48+(((10*r+dv (tN m)[i])/n:Nat):Int))]]=[dch ((10*r+dv (tN m)[i])/n)]:=by
    simp only[qgk,List.map_cons,List.map_nil,List.getD_cons_zero,U.toI,dch]
    congr 2
   have hl1:qu (tN r)+qu [(tN m)[i]]≤140737488355328:=by unfold qu;simp;omega
   have hl2:qu q+qu [dch ((10*r+dv (tN m)[i])/n)]≤140737488355328:=by unfold qu;simp;omega
   refine⟨k-1,[.s (tN m),.s (tN n),.s (q++[dch ((10*r+dv (tN m)[i])/n)]),.s (tN ((10*r+dv (tN m)[i])%n)),.i ((i+1:Nat):Int)],by omega,?_,i+1,_,_,rfl,by omega,by simp[hql],?_,?_,Nat.mod_lt _ hn⟩
   ·simp only[STD,hw,hd1,hd2,qAf hi,hl1,qbV,hB,hI,hrs,hl2,show (0:Int)≤(i:Int) by omega,show (0:Int)≤((i+1:Nat):Int) by omega,show (i:Int)≤((i+1:Nat):Int) by omega,and_self]
   ·exact q8f.2 ⟨hdq,qs1 hq10⟩
   ·rw[qj8,qlp hq10,q8i hi,←hv]
    have hdm:=Nat.div_add_mod (10*r+dv (tN m)[i]) n
    generalize (10*r+dv (tN m)[i])/n=c at *
    generalize (10*r+dv (tN m)[i])%n=e at *
    have e1:(10*val q+c)*n=10*(val q*n)+n*c:=by rw[Nat.add_mul,Nat.mul_assoc,Nat.mul_comm c n]
    omega
  ·right
   have hie:i=(tN m).length:=by omega
   have hd1:¬((i:Int)<qu (tN m)):=by unfold qu;omega
   rw[hie,List.take_length,q0N] at hv
   have e1:m/n=val q:=by rw[←hv,Nat.add_comm,Nat.add_mul_div_right _ _ hn,Nat.div_eq_of_lt hr,Nat.zero_add]
   have e2:m%n=r:=by rw[←hv,Nat.add_comm,Nat.add_mul_mod_self_right,Nat.mod_eq_of_lt hr]
   refine⟨0,[.s q,.s (tN r)],?_,rfl,q,by rw[e2],by omega,hdq,e1.symm⟩
   simp only[STD,hd1]) (ps:=[.s (tN m),.s (tN n),.s [],.s [48],.i 0]) ⟨0,0,[],rfl,by omega,rfl,qm5,by simp[qd8],hn⟩
 subst h2
 have hB:=qb5 (s:=q) h4 (by intro h;subst h;have:=qgI m;simp at h3;omega) (by omega)
 rw[h5] at hB
 simp only[STD,h1,hB]
def fq(m n:Int):Int:=if 0<n then m/n else (-m)/(-n)
theorem qkQ{m n q:Int}(h:(0<n∧q*n≤m∧m<q*n+n)∨(n<0∧q*n+n<m∧m≤q*n)):fq m n=q:=by
 unfold fq
 rcases h with⟨h0,h1,h2⟩|⟨h0,h1,h2⟩
 ·rw[if_pos h0]
  exact((Int.ediv_emod_unique (r:=m-q*n) h0).2 ⟨by rw[Int.mul_comm];omega,by omega,by omega⟩).1
 ·rw[if_neg (by omega)]
  have e:-n*q=-(q*n):=by rw[Int.neg_mul,Int.mul_comm]
  exact((Int.ediv_emod_unique (r:=q*n-m) (show 0 < -n by omega)).2 ⟨by omega,by omega,by omega⟩).1
theorem qmg{n q:Int}(h:n≠0):fq (q*n) n=q:=by
 apply qkQ
 rcases Int.lt_or_lt_of_ne h with h|h
 ·exact .inr ⟨h,by omega,by omega⟩
 ·exact .inl ⟨h,by omega,by omega⟩
theorem qEi(m:Int){n:Int}(_:n≠0):(fq m n).natAbs≤m.natAbs+1:=by
 unfold fq
 split
 ·have:=Int.natAbs_ediv_le_natAbs m n;omega
 ·have:=Int.natAbs_ediv_le_natAbs (-m) (-n);omega
theorem qkl(m:Int){n:Int}(hn:n≠0):n*m.tdiv n+q69 m n=m∧(q69 m n).natAbs<n.natAbs∧(0≤m→0≤q69 m n)∧(m≤0→q69 m n≤0):=by
 unfold q69
 refine⟨Int.mul_tdiv_add_tmod m n,?_,fun h=>Int.tmod_nonneg n h,fun h=>?_⟩
 ·rw[Int.natAbs_tmod]
  exact Nat.mod_lt _ (by omega)
 ·have:=Int.tmod_nonneg n (show 0≤-m by omega)
  rw[Int.neg_tmod] at this
  omega
end Go.Eng

namespace Go.Eng
theorem qAA{m:Int}(h:(tN m.natAbs).length≤18):m.natAbs<1000000000000000000:=Nat.lt_of_lt_of_le (q5J h) (by decide)
theorem qfY{n t:Int}(hn:n≠0)(h:-9223372036854775808≤t∧t≤9223372036854775807):u6 .i64 (n*t) n=t:=by
 unfold u6
 rw[Int.mul_tdiv_cancel_left _ hn]
 unfold IntKind.wrap
 simp[IntKind.signed,IntKind.bits];omega
theorem qCp(m:Int)(n:Int):(m.tdiv n).natAbs≤m.natAbs:=by
 rw[Int.natAbs_tdiv];exact Nat.div_le_self _ _
theorem qAw{m n:Int}(hn:n≠0) :
  (q69 m n≠0∧¬((q69 m n<0)=(n<0))→fq m n=m.tdiv n-1∧m-fq m n*n=q69 m n+n)∧(¬(q69 m n≠0∧¬((q69 m n<0)=(n<0)))→fq m n=m.tdiv n∧m-fq m n*n=q69 m n):=by
 obtain⟨h1,h2,h3,h4⟩:=qkl m hn
 generalize m.tdiv n=t at *
 generalize q69 m n=r at *
 have e:n*t=t*n:=Int.mul_comm _ _
 have e2:(t-1)*n=t*n-n:=by rw[Int.sub_mul,Int.one_mul]
 constructor
 ·intro⟨c1,c2⟩
  have c3:¬(r<0↔n<0):=fun h=>c2 (propext h)
  have:fq m n=t-1:=by
   apply qkQ
   rw[e2]
   rcases Int.lt_or_lt_of_ne hn with h|h
   ·have:¬r<0:=fun q=>c3 ⟨fun _=>h,fun _=>q⟩
    exact .inr ⟨h,by omega,by omega⟩
   ·have:r<0:=by
     rcases Decidable.em (r<0) with q|q
     ·exact q
     ·exact absurd ⟨fun x=>by omega,fun x=>by omega⟩ c3
    exact .inl ⟨h,by omega,by omega⟩
  rw[this,e2]
  exact⟨rfl,by omega⟩
 ·intro c
  have c':r=0∨(r<0↔n<0):=by
   rcases Decidable.em (r=0) with q|q
   ·exact .inl q
   ·right
    rcases Decidable.em (r<0↔n<0) with q2|q2
    ·exact q2
    ·exact absurd ⟨q,fun h=>q2 (by rw[h])⟩ c
  have:fq m n=t:=by
   apply qkQ
   rcases Int.lt_or_lt_of_ne hn with h|h
   ·rcases c' with q|q
    ·exact .inr ⟨h,by omega,by omega⟩
    ·have:=q.2 h;exact .inr ⟨h,by omega,by omega⟩
   ·rcases c' with q|q
    ·exact .inl ⟨h,by omega,by omega⟩
    ·have:¬r<0:=fun x=>by have:=q.1 x;omega
     exact .inl ⟨h,by omega,by omega⟩
  rw[this]
  exact⟨rfl,by omega⟩
theorem qDz{m n:Int}(hn:n≠0) :
  (m.natAbs%n.natAbs≠0∧¬((m<0)=(n<0))→fq m n=-((m.natAbs/n.natAbs:Nat):Int)-1) ∧
  (¬(m.natAbs%n.natAbs≠0∧¬((m<0)=(n<0)))→fq m n=if ¬((m<0)=(n<0)) then -((m.natAbs/n.natAbs:Nat):Int) else ((m.natAbs/n.natAbs:Nat):Int)):=by
 have hd:=Nat.div_add_mod m.natAbs n.natAbs
 have hl:=Nat.mod_lt m.natAbs (show 0<n.natAbs by omega)
 generalize m.natAbs/n.natAbs=q at *
 generalize m.natAbs%n.natAbs=r at *
 have hq:((n.natAbs*q:Nat):Int)=(n.natAbs:Int)*(q:Int):=by simp
 have e1:n<0→(n.natAbs:Int)*(q:Int)=-((q:Int)*n):=fun h=>by rw[show (n.natAbs:Int)=-n by omega,Int.neg_mul,Int.mul_comm]
 have e2:0<n→(n.natAbs:Int)*(q:Int)=(q:Int)*n:=fun h=>by rw[show (n.natAbs:Int)=n by omega,Int.mul_comm]
 have e3:(-(q:Int)-1)*n=-((q:Int)*n)-n:=by rw[Int.sub_mul,Int.neg_mul,Int.one_mul]
 have e4:(-(q:Int))*n=-((q:Int)*n):=Int.neg_mul _ _
 constructor
 ·intro⟨c1,c2⟩
  have c3:¬(m<0↔n<0):=fun h=>c2 (propext h)
  apply qkQ
  rw[e3]
  rcases Int.lt_or_lt_of_ne hn with h|h
  ·have:=e1 h
   have:¬m<0:=fun q=>c3 ⟨fun _=>h,fun _=>q⟩
   exact .inr ⟨h,by omega,by omega⟩
  ·have:=e2 h
   have:m<0:=by
    rcases Decidable.em (m<0) with q|q
    ·exact q
    ·exact absurd ⟨fun x=>by omega,fun x=>by omega⟩ c3
   exact .inl ⟨h,by omega,by omega⟩
 ·intro c
  by_cases c2:(m<0)=(n<0)
  ·rw[if_neg (by simpa using c2)]
   have c3:m<0↔n<0:=by rw[c2]
   apply qkQ
   rcases Int.lt_or_lt_of_ne hn with h|h
   ·have:=e1 h
    have:=c3.2 h
    exact .inr ⟨h,by omega,by omega⟩
   ·have:=e2 h
    have:¬m<0:=fun x=>by have:=c3.1 x;omega
    exact .inl ⟨h,by omega,by omega⟩
  ·rw[if_pos c2]
   have hr:r=0:=by
    rcases Nat.eq_zero_or_pos r with h|h
    ·exact h
    ·exact absurd ⟨by omega,c2⟩ c
   have c3:¬(m<0↔n<0):=fun h=>c2 (propext h)
   apply qkQ
   rw[e4]
   rcases Int.lt_or_lt_of_ne hn with h|h
   ·have:=e1 h
    have:¬m<0:=fun q=>c3 ⟨fun _=>h,fun _=>q⟩
    exact .inr ⟨h,by omega,by omega⟩
   ·have:=e2 h
    have:m≤0:=by
     rcases Decidable.em (m<0) with q|q
     ·omega
     ·exact absurd ⟨fun x=>by omega,fun x=>by omega⟩ c3
    exact .inl ⟨h,by omega,by omega⟩
theorem qBl:tI 1=[49]:=rfl
theorem q4K(n:Nat):(tN n=[48])=(n=0):=by
 rw[←qus];exact propext ⟨fun h=>qq5 h,fun h=>by rw[h]⟩
theorem qAy(m:Int){n:Int}(hn:n≠0):nl (fq m n)≤nl m+2:=by
 have h:=qEi m hn
 have h2:=ko h
 have h3:=qup m.natAbs 1
 have h4:(tN 1).length=1:=rfl
 have:=qgI m.natAbs
 unfold nl
 omega
theorem q4i(m n:Int)(hn0:n≠0)(hm:nl m≤400000)(hn:nl n≤400000):(wu [.s (tI m),.s (tI n)]).run=some (0,[.s (tI (fq m n)),.s (tI (m-fq m n*n))]):=by
 rw[qnm]
 have hbr:=q60 m n
 by_cases hb:(tN m.natAbs).length≤18∧(tN n.natAbs).length≤18
 ·rw[if_pos hb] at hbr
  have b1:=qAA hb.1
  have b2:=qAA hb.2
  obtain⟨h1,h2,h3,h4⟩:=qkl m hn0
  obtain⟨g1,g2⟩:=qAw (m:=m) hn0
  have ht:=qCp m n
  by_cases c0:q69 m n=0
  ·obtain⟨e1,e2⟩:=g2 (fun h=>h.1 c0)
   rw[e2,e1]
   have w1:qw .i64 m (q69 m n)=n*m.tdiv n:=by rw[w9 (by omega)];omega
   have w2:=qfY (t:=m.tdiv n) hn0 (by omega)
   have o1:=uU (m.tdiv n) (by omega) (by omega)
   have o2:=uU (q69 m n) (by omega) (by omega)
   simp only[STD,hbr,hn0,c0] at w1 o2 ⊢
   simp only[STD,w1,w2,o1,o2]
  ·by_cases c1:(q69 m n<0)=(n<0)
   ·obtain⟨e1,e2⟩:=g2 (fun h=>h.2 c1)
    rw[e2,e1]
    have w1:qw .i64 m (q69 m n)=n*m.tdiv n:=by rw[w9 (by omega)];omega
    have w2:=qfY (t:=m.tdiv n) hn0 (by omega)
    have o1:=uU (m.tdiv n) (by omega) (by omega)
    have o2:=uU (q69 m n) (by omega) (by omega)
    have hbq:(ilt (q69 m n) 0=ilt n 0)=True:=by
     simp only[ilt,decide_eq_decide,eq_iff_iff,iff_true]
     rw[c1]
    simp only[STD,hbr,hn0,c0,hbq,w1,w2,o1,o2]
   ·obtain⟨e1,e2⟩:=g1 ⟨c0,c1⟩
    rw[e2,e1]
    have w0:qj .i64 (q69 m n) n=q69 m n+n:=z8 (by omega)
    have e3:n*(m.tdiv n-1)=n*m.tdiv n-n:=by rw[Int.mul_sub,Int.mul_one]
    have w1:qw .i64 m (q69 m n+n)=n*(m.tdiv n-1):=by rw[w9 (by omega)];omega
    have w2:=qfY (t:=m.tdiv n-1) hn0 (by omega)
    have o1:=uU (m.tdiv n-1) (by omega) (by omega)
    have o2:=uU (q69 m n+n) (by omega) (by omega)
    have hbq:(ilt (q69 m n) 0=ilt n 0)=False:=by
     simp only[ilt,decide_eq_decide,eq_iff_iff,iff_false]
     exact fun h=>c1 (propext h)
    simp only[STD,hbr,hn0,c0,hbq,w0,w1,w2,o1,o2]
 ·rw[if_neg hb] at hbr
  have hm':(tN m.natAbs).length≤400000:=hm
  have hn':(tN n.natAbs).length≤400000:=hn
  have hD:=qnf (m:=m.natAbs) (n:=n.natAbs) (by omega) (by omega) (by omega)
  have lq:(tN (m.natAbs/n.natAbs)).length≤(tN m.natAbs).length:=ko (Nat.div_le_self _ _)
  have hS:=fun b=>q01 (m.natAbs/n.natAbs) b (by omega)
  have hbq:(decide (m<0)=decide (n<0))=((m<0)=(n<0)):=by
   simp only[decide_eq_decide,eq_iff_iff]
  have lf:=qAy m hn0
  have hT:=qqo (fq m n) n (by omega) (by omega)
  have lt:=q48 (fq m n) n
  have hM:=qjK m (fq m n*n) (by omega) (by omega)
  obtain⟨g1,g2⟩:=qDz (m:=m) hn0
  by_cases c1:(m<0)=(n<0)
  ·have e1:=g2 (fun h=>h.2 c1)
   rw[if_neg (by simpa using c1)] at e1
   have hS':=hS false
   simp only[Bool.false_eq_true,if_false] at hS'
   rw[←e1] at hS'
   have hnb:(!Go.Eng.beq (decide (m<0)) (decide (n<0)))=false:=by
    simp only[Go.Eng.beq,Bool.not_eq_false',beq_iff_eq];rw[hbq];exact c1
   by_cases c0:m.natAbs%n.natAbs=0
   ·simp only[STD,hbr,wF,hD,jK,hnb,hS',wk,q4K,c0,hT,hM]
   ·simp only[STD,hbr,wF,hD,jK,hnb,hS',wk,q4K,c0,hT,hM]
  ·have hnb:(!Go.Eng.beq (decide (m<0)) (decide (n<0)))=true:=by
    have:¬(decide (m<0)=decide (n<0)):=by rw[hbq];exact c1
    simp only[Go.Eng.beq,Bool.not_eq_true',beq_eq_false_iff_ne];exact this
   have hS':=hS true
   simp only[if_true] at hS'
   by_cases c0:m.natAbs%n.natAbs=0
   ·have e1:=g2 (fun h=>h.1 c0)
    rw[if_pos c1] at e1
    rw[←e1] at hS'
    simp only[STD,hbr,wF,hD,jK,hnb,hS',wk,q4K,c0,hT,hM]
   ·have e1:=g1 ⟨c0,c1⟩
    have hMi:=qjK (-((m.natAbs/n.natAbs:Nat):Int)) 1 (by rw[qne];show (tN (m.natAbs/n.natAbs)).length≤_;omega) (by decide)
    rw[qBl,←e1] at hMi
    simp only[STD,hbr,wF,hD,jK,hnb,hS',wk,q4K,c0,hMi,hT,hM]
end Go.Eng

namespace Go.Eng
theorem qDH(x:Nat){y:Nat}(h:0<y):fq (x:Int) (y:Int)=((x/y:Nat):Int)∧(x:Int)-fq (x:Int) (y:Int)*(y:Int)=((x%y:Nat):Int):=by
 have e:fq (x:Int) (y:Int)=((x/y:Nat):Int):=by unfold fq;rw[if_pos (by omega)];rfl
 refine⟨e,?_⟩
 rw[e]
 have:=Nat.div_add_mod x y
 have h2:((y*(x/y):Nat):Int)=((x/y:Nat):Int)*(y:Int):=by rw[Nat.mul_comm];simp
 omega
theorem qAd(a b:Nat)(hb:b<9223372036854775808):(qh um [.i (a:Int),.i (b:Int)]).run=some (0,[.i ((Nat.gcd a b:Nat):Int)]):=by
 obtain⟨j,qs,h1,rfl,rfl⟩:=u7 (S:=um) (fun k ps=>∃x y:Nat,ps=[.i (x:Int),.i (y:Int)]∧y=k∧Nat.gcd x y=Nat.gcd a b)
  (fun j qs=>j=0∧qs=[.i ((Nat.gcd a b:Nat):Int)]) (n:=b) hb (fun k ps hk ⟨x,y,hps,hy,hg⟩=>by
  subst hps
  rw[qiQ]
  by_cases h0:y=0
  ·right
   refine⟨0,[.i (x:Int)],?_,rfl,?_⟩
   ·simp only[STD,h0];simp[]
   ·rw[←hg,h0,Nat.gcd_zero_right]
  ·left
   refine⟨x%y,[.i (y:Int),.i ((x%y:Nat):Int)],by rw[←hy];exact Nat.mod_lt _ (by omega),?_,y,x%y,rfl,rfl,?_⟩
   ·simp only[STD,show (0:Int)<(y:Int) by omega,show ¬((y:Int)=0) by omega,qmd]
   ·rw[←hg,Nat.gcd_comm y,←Nat.gcd_rec,Nat.gcd_comm]) (ps:=[.i (a:Int),.i (b:Int)]) ⟨a,b,rfl,rfl,rfl⟩
 exact h1
def eM(a b:Nat):Nat:=if b=0 then 0 else Nat.log2 (a*b)+1+if a<b then 1 else 0
theorem qzc{m n:Nat}(h:m≤n):Nat.log2 m≤Nat.log2 n:=by
 by_cases hm:m=0
 ·subst hm;simp
 ·rcases Nat.lt_or_ge (Nat.log2 n) (Nat.log2 m) with h1|h1
  ·have:=(Nat.log2_lt (show n≠0 by omega)).1 h1
   have h2:=Nat.log2_self_le hm
   omega
  ·exact h1
theorem qze{a b:Nat}(hb:b≠0):eM b (a%b)<eM a b:=by
 have hlt:=Nat.mod_lt a (show 0<b by omega)
 unfold eM
 rw[if_neg hb]
 by_cases hr:a%b=0
 ·rw[if_pos hr];omega
 ·rw[if_neg hr,if_neg (show ¬b<a%b by omega)]
  by_cases hab:a<b
  ·rw[if_pos hab,Nat.mod_eq_of_lt hab,Nat.mul_comm b a];omega
  ·rw[if_neg hab]
   have hd:=Nat.div_add_mod a b
   have hq:1≤a/b:=(Nat.le_div_iff_mul_le (by omega)).2 (by omega)
   have h1:b*1≤b*(a/b):=Nat.mul_le_mul_left _ hq
   have h2:2*(b*(a%b))≤a*b:=by
    have:2*(a%b)≤a:=by omega
    have:=Nat.mul_le_mul_right b this
    rw[Nat.mul_assoc,Nat.mul_comm (a%b) b] at this
    exact this
   have h3:=qzc h2
   have h4:Nat.log2 (2*(b*(a%b)))=Nat.log2 (b*(a%b))+1:=by
    apply Nat.log2_two_mul
    exact Nat.mul_ne_zero hb hr
   omega
theorem qzu{x k j:Nat}(h:(tN x).length≤k)(hj:4*k=j):x<2^j:=by
 have h3:x<10^k:=q5J h
 have h4:(10:Nat)^k≤16^k:=Nat.pow_le_pow_left (by omega) _
 have h5:(16:Nat)^k=2^j:=by rw[show (16:Nat)=2^4 from rfl,←Nat.pow_mul,hj]
 rw[h5] at h4
 exact Nat.lt_of_lt_of_le h3 h4
theorem qvR{a b:Nat}(ha:(tN a).length≤400000)(hb:(tN b).length≤400000):eM a b<9223372036854775808:=by
 unfold eM
 have h1:=qnV a b
 by_cases h0:a*b=0
 ·rw[h0];simp;split<;>(try split)<;>omega
 ·obtain⟨j,hj⟩:∃j,j=3200000:=⟨_,rfl⟩
  have h2:a*b<2^j:=qzu (k:=800000) (by omega) (by omega)
  have:=(Nat.log2_lt h0).2 h2
  split<;>(try split)<;>omega
theorem qpa(m n:Int)(hm:nl m≤400000)(hn:nl n≤400000):(q4c [.s (tI m),.s (tI n)]).run=some (0,[.s (tN (Nat.gcd m.natAbs n.natAbs))]):=by
 rw[qn4]
 have hm':(tN m.natAbs).length≤400000:=hm
 have hn':(tN n.natAbs).length≤400000:=hn
 have hS:=fun x (h:(tN x).length≤400000)=>q01 x false (by omega)
 simp only[Bool.false_eq_true,if_false,q0Y] at hS
 obtain⟨j,qs,h1,h2,rfl⟩:=u7 (S:=q1n) (fun k ps=>∃x y:Nat,ps=[.s (tN x),.s (tN y)]∧eM x y=k∧Nat.gcd x y=Nat.gcd m.natAbs n.natAbs∧(tN x).length≤400000∧(tN y).length≤400000)
  (fun j qs=>(j=0∨j=1)∧qs=[.s (tN (Nat.gcd m.natAbs n.natAbs))]) (n:=eM m.natAbs n.natAbs) (qvR hm' hn') (fun k ps hk ⟨x,y,hps,hy,hg,lx,ly⟩=>by
  subst hps
  rw[qkb]
  by_cases h0:y=0
  ·right
   refine⟨0,[.s (tN x)],?_,.inl rfl,?_⟩
   ·simp only[STD,wk,q4K,h0]
   ·rw[←hg,h0,Nat.gcd_zero_right]
  ·have hbr:=q60 (x:Int) (y:Int)
   rw[q0Y,q0Y] at hbr
   simp only[Int.natAbs_natCast] at hbr
   by_cases hb:(tN x).length≤18∧(tN y).length≤18
   ·right
    rw[if_pos hb] at hbr
    have b1:=qAA (m:=(x:Int)) hb.1
    have b2:=qAA (m:=(y:Int)) hb.2
    simp only[Int.natAbs_natCast] at b1 b2
    have hE:=qAd x y (by omega)
    have hgl:Nat.gcd x y≤y:=Nat.gcd_le_right _ (by omega)
    have hO:=uU ((Nat.gcd x y:Nat):Int) (by omega) (by omega)
    rw[q0Y] at hO
    refine⟨1,[.s (tN (Nat.gcd x y))],?_,.inr rfl,by rw[hg]⟩
    simp only[STD,wk,q4K,h0,hbr,hE,hO]
   ·left
    rw[if_neg hb] at hbr
    have hP:=q4i (x:Int) (y:Int) (by omega) (by exact lx) (by exact ly)
    rw[q0Y,q0Y,(qDH x (show 0<y by omega)).2,q0Y] at hP
    refine⟨eM y (x%y),[.s (tN y),.s (tN (x%y))],by rw[←hy];exact qze h0,?_,y,x%y,rfl,rfl,?_,ly,Nat.le_trans (ko (Nat.le_of_lt (Nat.mod_lt _ (by omega)))) ly⟩
    ·simp only[STD,wk,q4K,h0,hbr,hP]
    ·rw[←hg,Nat.gcd_comm y,←Nat.gcd_rec,Nat.gcd_comm]) (ps:=[.s (tN m.natAbs),.s (tN n.natAbs)]) ⟨_,_,rfl,rfl,rfl,hm',hn'⟩
 rcases h2 with rfl|rfl
 ·simp only[STD,wF,hS _ hm',hS _ hn',h1,zk h1,ite_self]
 ·simp only[STD,wF,hS _ hm',hS _ hn',h1,zk h1,ite_self]
def mag(s:List UInt8):List UInt8:=if s.getD 0 0=45 then s.drop 1 else s
theorem qto(m:Int):mag (tI m)=tN m.natAbs:=by
 unfold mag
 by_cases h:m<0
 ·rw[qaU h];simp
 ·rw[qi9 h]
  obtain⟨c,t,e,h1,h2⟩:=qg1 (wl m.natAbs) (qmP _)
  rw[e]
  simp only[List.getD_cons_zero]
  rw[if_neg]
  intro hc;subst hc;revert h1;decide
theorem qA3(s:List UInt8):(∃m:Int,s=tI m)↔mag s≠[]∧q62 (mag s)∧((mag s).getD 0 0=48→s.length=1):=by
 constructor
 ·rintro ⟨m,rfl⟩
  rw[qto]
  refine⟨qmP _,wl _,fun h=>?_⟩
  rcases qzX m.natAbs with h1|h1
  ·have h2:=qqC m.natAbs
   have hv:m.natAbs=0:=by
    obtain⟨c,e⟩:∃c,tN m.natAbs=[c]:=List.length_eq_one_iff.1 h1
    rw[e] at h
    simp at h
    have:=q0N m.natAbs
    rw[e,h] at this
    simpa[val,dv] using this.symm
   have hm0:m=0:=by omega
   rw[hm0];rfl
  ·exact absurd h h1
 ·rintro ⟨h1,h2,h3⟩
  by_cases h45:s.getD 0 0=45
  ·have hm:mag s=s.drop 1:=by unfold mag;rw[if_pos h45]
   obtain⟨c,t,rfl⟩:∃c t,s=c::t:=by
    cases s with
    | nil=>simp at h45
    | cons c t=>exact⟨c,t,rfl⟩
   simp at h45
   subst h45
   rw[hm] at h1 h2 h3
   simp only[List.drop_succ_cons,List.drop_zero] at h1 h2 h3
   have h4:t.getD 0 0≠48:=fun h=>by
    have:=h3 h
    simp at this
    exact h1 this
   have hv:=qvO h2 h1 h4
   have hp:0<10^(t.length-1):=Nat.pow_pos (by omega)
   refine⟨-((val t:Nat):Int),?_⟩
   rw[qaU (by omega)]
   simp only[Int.natAbs_neg,Int.natAbs_natCast]
   rw[←qnv h2 h1 (.inr h4)]
  ·have hm:mag s=s:=by unfold mag;rw[if_neg h45]
   rw[hm] at h1 h2 h3
   refine⟨((val s:Nat):Int),?_⟩
   rw[q0Y]
   refine qnv h2 h1 ?_
   by_cases h4:s.getD 0 0=48
   ·exact .inl (h3 h4)
   ·exact .inr h4
open Classical in
noncomputable def qwl(s:List UInt8):Int:=if ∃m:Int,s=tI m then (if (mag s).length≤1024 then 0 else 11) else 3
end Go.Eng

namespace Go.Eng
def tQ(q:Rat):List UInt8:=if q.den=1 then tI q.num else tI q.num++47::tN q.den
def dl(n:Nat):Nat:=(tN n).length
def qn(q:Rat):Nat:=nl q.num
def qd(q:Rat):Nat:=dl q.den
theorem qzg{s:List UInt8}(h:q62 s):∀c,c∈s→c≠47:=fun c hc e=>by
 have:=h c hc
 rw[e] at this
 revert this;decide
theorem qoG(m:Int):∀c,c∈tI m→c≠47:=by
 intro c hc
 unfold tI at hc
 split at hc
 ·rcases List.mem_cons.1 hc with rfl|hc
  ·decide
  ·exact qzg (wl _) c hc
 ·exact qzg (wl _) c hc
theorem qvX:∀{s s' t t':List UInt8},(∀c,c∈s→c≠47)→(∀c,c∈s'→c≠47)→s++47::t=s'++47::t'→s=s'∧t=t'
 | [],[],t,t',_,_,h=>⟨rfl,by simpa using h⟩
 | [],c::s',t,t',_,h2,h=>by
  simp only[List.nil_append,List.cons_append,List.cons.injEq] at h
  exact absurd h.1.symm (h2 c List.mem_cons_self)
 | c::s,[],t,t',h1,_,h=>by
  simp only[List.nil_append,List.cons_append,List.cons.injEq] at h
  exact absurd h.1 (h1 c List.mem_cons_self)
 | c::s,c'::s',t,t',h1,h2,h=>by
  simp only[List.cons_append,List.cons.injEq] at h
  obtain⟨e1,e2⟩:=qvX (fun c hc=>h1 c (List.mem_cons_of_mem _ hc)) (fun c hc=>h2 c (List.mem_cons_of_mem _ hc)) h.2
  exact⟨by rw[h.1,e1],e2⟩
theorem q9m{q:Rat}(h:q.den=1):tQ q=tI q.num:=by unfold tQ;rw[if_pos h]
theorem q5W{q:Rat}(h:q.den≠1):tQ q=tI q.num++47::tN q.den:=by unfold tQ;rw[if_neg h]
theorem qDL{a b:Rat}(h:tQ a=tQ b):a=b:=by
 by_cases ha:a.den=1<;>by_cases hb:b.den=1
 ·rw[q9m ha,q9m hb] at h
  exact Rat.ext (qvN h) (ha.trans hb.symm)
 ·rw[q9m ha,q5W hb] at h
  exact absurd rfl (qoG a.num 47 (by rw[h];simp))
 ·rw[q5W ha,q9m hb] at h
  exact absurd rfl (qoG b.num 47 (by rw[←h];simp))
 ·rw[q5W ha,q5W hb] at h
  obtain⟨e1,e2⟩:=qvX (qoG _) (qoG _) h
  exact Rat.ext (qvN e1) (qq5 e2)
theorem qx2(a b:Rat):(tQ a=tQ b)=(a=b):=propext ⟨qDL,fun h=>by rw[h]⟩
theorem qvd(m:Int):tQ (m:Rat)=tI m:=q9m (by simp)
theorem qAM(n:Nat):tQ (OfNat.ofNat n:Rat)=tN n:=by
 rw[q9m (by simp)]
 simp only[Rat.num_ofNat]
 exact q0Y n
theorem qbA{m n:Int}(h:m.natAbs≤n.natAbs):nl m≤nl n:=ko h
theorem qzE{m n:Nat}(h:m≤n):dl m≤dl n:=ko h
theorem qyh(n:Nat):nl (n:Int)=dl n:=rfl
theorem qyR(m n:Nat):dl (m*n)≤dl m+dl n:=qnV m n
theorem qzL(m n:Int):nl (m-n)≤max (nl m) (nl n)+1:=by
 rw[Int.sub_eq_add_neg]
 have:=qt3 m (-n)
 rwa [qne] at this
theorem qb3(N:Int)(D:Nat):nl (mkRat N D).num≤nl N∧dl (mkRat N D).den≤dl D:=by
 rw[Rat.num_mkRat,Rat.den_mkRat]
 by_cases h:D=0
 ·rw[if_pos h,if_pos h,h]
  exact⟨qbA (by simp),by decide⟩
 ·rw[if_neg h,if_neg h]
  exact⟨qbA (Int.natAbs_ediv_le_natAbs _ _),qzE (Nat.div_le_self _ _)⟩
theorem qBB(a b:Rat):qn (a*b)≤qn a+qn b:=by
 unfold qn
 rw[Rat.mul_def']
 exact Nat.le_trans (qb3 _ _).1 (q48 _ _)
theorem qBx(a b:Rat):qd (a*b)≤qd a+qd b:=by
 unfold qd
 rw[Rat.mul_def']
 exact Nat.le_trans (qb3 _ _).2 (qyR _ _)
theorem qDw(a b:Rat):qn (a+b)≤max (qn a+qd b) (qn b+qd a)+1:=by
 unfold qn qd
 rw[Rat.add_def']
 have h1:=(qb3 (a.num*b.den+b.num*a.den) (a.den*b.den)).1
 have h2:=qt3 (a.num*b.den) (b.num*a.den)
 have h3:=q48 a.num b.den
 have h4:=q48 b.num a.den
 rw[qyh] at h3 h4
 omega
theorem qDQ(a b:Rat):qd (a+b)≤qd a+qd b:=by
 unfold qd
 rw[Rat.add_def']
 exact Nat.le_trans (qb3 _ _).2 (qyR _ _)
theorem qD6(a b:Rat):qn (a-b)≤max (qn a+qd b) (qn b+qd a)+1:=by
 unfold qn qd
 rw[Rat.sub_def']
 have h1:=(qb3 (a.num*b.den-b.num*a.den) (a.den*b.den)).1
 have h2:=qzL (a.num*b.den) (b.num*a.den)
 have h3:=q48 a.num b.den
 have h4:=q48 b.num a.den
 rw[qyh] at h3 h4
 omega
theorem qD8(a b:Rat):qd (a-b)≤qd a+qd b:=by
 unfold qd
 rw[Rat.sub_def']
 exact Nat.le_trans (qb3 _ _).2 (qyR _ _)
theorem qDP(a:Rat):qn (-a)=qn a:=by unfold qn;rw[Rat.neg_num,qne]
theorem qnI(a:Rat):0<qn a:=qmX _
theorem qwx(a:Rat):0<qd a:=qgI _
theorem qCV{a:Rat}(h:a≠0):qn a⁻¹≤qd a:=by
 unfold qn qd
 rw[Rat.num_inv,←qyh]
 apply qbA
 rw[Int.natAbs_mul,Int.natAbs_sign_of_ne_zero (by rwa [Ne,Rat.num_eq_zero])]
 simp
theorem qD5{a:Rat}(h:a≠0):qd a⁻¹≤qn a:=by
 unfold qn qd
 rw[Rat.den_inv,if_neg (by rwa [Rat.num_eq_zero])]
 exact Nat.le_refl _
theorem qDc(a:Rat){b:Rat}(h:b≠0):qn (a/b)≤qn a+qd b:=by
 rw[Rat.div_def]
 exact Nat.le_trans (qBB _ _) (Nat.add_le_add_left (qCV h) _)
theorem qDs(a:Rat){b:Rat}(h:b≠0):qd (a/b)≤qd a+qn b:=by
 rw[Rat.div_def]
 exact Nat.le_trans (qBx _ _) (Nat.add_le_add_left (qD5 h) _)
def sgq(q:Rat):Int:=sgn q.num
theorem qcW{m k:Int}(hk:0<k):sgn (m*k)=sgn m:=by
 unfold sgn
 rcases Int.lt_trichotomy m 0 with h|h|h
 ·have:=Int.mul_neg_of_neg_of_pos h hk
  rw[if_pos h,if_pos this]
 ·subst h;simp
 ·have:=Int.mul_pos h hk
  rw[if_neg (by omega),if_neg (by omega),if_neg (by omega),if_neg (by omega)]
theorem qCw(m:Int):sgn (-m)=-sgn m:=by
 unfold sgn
 rcases Int.lt_trichotomy m 0 with h|h|h
 ·rw[if_pos h,if_neg (by omega),if_neg (by omega)];rfl
 ·subst h;rfl
 ·rw[if_pos (by omega),if_neg (by omega),if_neg (by omega)]
theorem qum{q:Rat}(h:0<q):sgq q=1:=by
 unfold sgq sgn
 have h1:0≤q.num:=Rat.num_nonneg.2 (Rat.le_of_lt h)
 have h2:q.num≠0:=fun e=>by rw[Rat.num_eq_zero] at e;rw[e] at h;exact Rat.lt_irrefl h
 rw[if_neg (by omega),if_neg h2]
theorem qzS(q:Rat):sgq (-q)=-sgq q:=by unfold sgq;rw[Rat.neg_num,qCw]
theorem qBu{q:Rat}(h:q<0):sgq q=-1:=by
 have h1:0 < -q:=by grind
 have:=qum h1
 rw[qzS] at this
 omega
theorem qcj(q:Rat):(q<0∧sgq q=-1)∨(q=0∧sgq q=0)∨(0<q∧sgq q=1):=by
 by_cases h1:q<0
 ·exact .inl ⟨h1,qBu h1⟩
 ·by_cases h2:q=0
  ·exact .inr (.inl ⟨h2,by rw[h2];rfl⟩)
  ·exact .inr (.inr ⟨by grind,qum (by grind)⟩)
theorem qkR(q:Rat):(sgq q≤0)=(q≤0):=by
 rcases qcj q with⟨h,e⟩|⟨h,e⟩|⟨h,e⟩<;>rw[e]<;>simp<;>grind
end Go.Eng

namespace Go.Eng
def sP(s:List UInt8):Nat:=s.findIdx (·==47)
def spn(s:List UInt8):List UInt8:=s.take (sP s)
def spd(s:List UInt8):List UInt8:=if sP s<s.length then s.drop (sP s+1) else [49]
theorem qBG(s:List UInt8):sP s≤s.length:=List.findIdx_le_length
theorem qCY{s:List UInt8}{i:Nat}(h:i<s.length)(h1:s[i]=47)(h2:∀j (hj:j<i),s[j]≠47):sP s=i:=by
 unfold sP
 rw[List.findIdx_eq h]
 exact⟨by simp[h1],fun j hj=>by simp[h2 j hj]⟩
theorem quG{s:List UInt8}(h:∀c,c∈s→c≠47):sP s=s.length:=by
 unfold sP
 rw[List.findIdx_eq_length]
 intro x hx
 simpa using h x hx
theorem qzf{s t:List UInt8}(h:∀c,c∈s→c≠47):sP (s++47::t)=s.length:=by
 apply qCY (by simp)
 ·simp
 ·intro j hj
  rw[List.getElem_append_left hj]
  exact h _ (List.getElem_mem hj)
theorem qBc(q:Rat):spn (tQ q)=tI q.num:=by
 unfold spn
 by_cases h:q.den=1
 ·rw[q9m h,quG (qoG _),List.take_length]
 ·rw[q5W h,qzf (qoG _)];simp
theorem qBk(q:Rat):spd (tQ q)=tN q.den:=by
 unfold spd
 by_cases h:q.den=1
 ·rw[q9m h,quG (qoG _),if_neg (Nat.lt_irrefl _),h];rfl
 ·rw[q5W h,qzf (qoG _),if_pos (by simp)];simp
theorem qDK(q:Rat):(tQ q).length≤qn q+qd q+2:=by
 have h1:=qt0 q.num
 unfold qn qd nl dl
 by_cases h:q.den=1
 ·rw[q9m h];omega
 ·rw[q5W h];simp;omega
theorem q8Z(n:Nat):(tN n=[49])=(n=1):=by
 have:tN 1=[49]:=rfl
 rw[←this];exact propext ⟨fun h=>qq5 h,fun h=>by rw[h]⟩
theorem qAR(m n:Int)(hn:n≠0)(hm':nl m≤400000)(hn':nl n≤400000):(q3O [.s (tI m),.s (tI n)]).run=some (0,[.s (tQ (Rat.divInt m n))]):=by
 rw[qmU]
 have hS:=qpa m n hm' hn'
 have hg0:0<Nat.gcd m.natAbs n.natAbs:=Nat.gcd_pos_of_pos_right _ (by omega)
 have hgn:Nat.gcd m.natAbs n.natAbs≤n.natAbs:=Nat.gcd_le_right _ (by omega)
 have hgl:(tN (Nat.gcd m.natAbs n.natAbs)).length≤400000:=Nat.le_trans (ko hgn) hn'
 have hnum:=Rat.num_divInt m n
 have hden:=Rat.den_divInt m n
 rw[if_neg hn] at hden
 have hgc:Int.gcd n m=Nat.gcd m.natAbs n.natAbs:=by unfold Int.gcd;exact Nat.gcd_comm _ _
 rw[hgc] at hnum hden
 obtain⟨k,hk⟩:((Nat.gcd m.natAbs n.natAbs:Nat):Int) ∣ m:=Int.ofNat_dvd_left.2 (Nat.gcd_dvd_left _ _)
 obtain⟨l,hl⟩:((Nat.gcd m.natAbs n.natAbs:Nat):Int) ∣ n:=Int.ofNat_dvd_left.2 (Nat.gcd_dvd_right _ _)
 generalize Nat.gcd m.natAbs n.natAbs=g at *
 generalize Rat.divInt m n=q at *
 have hB:=jK n
 have hm2:k*(g:Int)=m:=by rw[Int.mul_comm];exact hk.symm
 have hn2:l*(g:Int)=n:=by rw[Int.mul_comm];exact hl.symm
 have hql:nl q.num≤400000:=by
  refine Nat.le_trans (qbA ?_) hm'
  rw[hnum]
  refine Nat.le_trans (Int.natAbs_ediv_le_natAbs _ _) ?_
  rw[Int.natAbs_mul,Int.natAbs_sign_of_ne_zero hn];omega
 have hdl:(tN q.den).length≤400000:=by
  refine Nat.le_trans (ko ?_) hn'
  rw[hden];exact Nat.div_le_self _ _
 have hil:=qt0 q.num
 have hil2:(tN q.num.natAbs).length≤400000:=hql
 have fin:(Tree.br (seq (tI (q.den:Int)) [49]) (Tree.leaf (0,[PV.s (tI q.num)])) (Tree.br (ile (qu (tI q.num)+qu [47]) 140737488355328) (Tree.br (ile (qu (qbV (tI q.num) [47])+qu (tI (q.den:Int))) 140737488355328)
   (Tree.leaf (0,[PV.s (qbV (qbV (tI q.num) [47]) (tI (q.den:Int)))])) Tree.fail) Tree.fail)).run=some (0,[PV.s (tQ q)]):=by
  rw[q0Y]
  have a1:qu (tI q.num)+qu [47]≤140737488355328:=by unfold qu;simp;omega
  have a2:qu (qbV (tI q.num) [47])+qu (tN q.den)≤140737488355328:=by unfold qu qbV;simp;omega
  by_cases h1:q.den=1
  ·simp only[STD,wk,q8Z,h1,q9m h1]
  ·simp only[STD,wk,q8Z,h1,q5W h1,a1,a2]
   simp[qbV]
 by_cases hneg:n<0
 ·have hT:=qbR (g:Int) (by simp only[Int.natAbs_natCast];omega)
  rw[q0Y] at hT
  have e1:fq m (-(g:Int))=q.num:=by
   have:fq ((-k)*(-(g:Int))) (-(g:Int))=-k:=qmg (by omega)
   rw[show (-k)*(-(g:Int))=m by rw[Int.neg_mul_neg];exact hm2] at this
   rw[this,hnum,Int.sign_eq_neg_one_of_neg hneg,←hm2]
   rw[show (-1:Int)*(k*(g:Int))=(-k)*(g:Int) by rw[Int.neg_mul,Int.one_mul,Int.neg_mul]]
   exact(Int.mul_ediv_cancel _ (by omega)).symm
  have e2:fq n (-(g:Int))=(q.den:Int):=by
   have:fq ((-l)*(-(g:Int))) (-(g:Int))=-l:=qmg (by omega)
   rw[show (-l)*(-(g:Int))=n by rw[Int.neg_mul_neg];exact hn2] at this
   rw[this,hden]
   have h3:(n.natAbs:Int)=(-l)*(g:Int):=by rw[Int.neg_mul];omega
   rw[Int.natCast_ediv,h3,Int.mul_ediv_cancel _ (by omega)]
  have P1:=q4i m (-(g:Int)) (by omega) hm' (by rw[qne];exact hgl)
  have P2:=q4i n (-(g:Int)) (by omega) hn' (by rw[qne];exact hgl)
  rw[e1] at P1
  rw[e2] at P2
  simp only[STD,hS,hB,hneg,hT,P1,P2] at fin ⊢
  exact fin
 ·have e1:fq m (g:Int)=q.num:=by
   have:fq (k*(g:Int)) (g:Int)=k:=qmg (by omega)
   rw[hm2] at this
   rw[this,hnum,Int.sign_eq_one_of_pos (by omega),Int.one_mul,←hm2]
   exact(Int.mul_ediv_cancel _ (by omega)).symm
  have e2:fq n (g:Int)=(q.den:Int):=by
   have:fq (l*(g:Int)) (g:Int)=l:=qmg (by omega)
   rw[hn2] at this
   rw[this,hden]
   have h3:(n.natAbs:Int)=l*(g:Int):=by omega
   rw[Int.natCast_ediv,h3,Int.mul_ediv_cancel _ (by omega)]
  have P1:=q4i m (g:Int) (by omega) hm' hgl
  have P2:=q4i n (g:Int) (by omega) hn' hgl
  rw[e1,q0Y] at P1
  rw[e2,q0Y] at P2
  simp only[STD,hS,hB,hneg,P1,P2] at fin ⊢
  rw[q0Y] at fin
  exact fin
theorem qB0(a:Rat):(0:Int)<(a.den:Int):=by have:=a.den_nz;omega
def qgz(a b c:Rat):Int:=if 0≤sgq a*(sgq b*sgq c) then (if sgq a=0 then sgq b*sgq c else sgq a) else sgq a*sgq (a*a-b*b*c)
theorem qz5(q:Rat):-1≤sgq q∧sgq q≤1:=by rcases qcj q with⟨_,e⟩|⟨_,e⟩|⟨_,e⟩<;>rw[e]<;>decide
theorem qEm{x y:Int}(hx:-1≤x∧x≤1)(hy:-1≤y∧y≤1):-1≤x*y∧x*y≤1:=by
 have:=qA4 (A:=1) (B:=1) hx.1 hx.2 hy.1 hy.2
 omega
theorem qkt{x y:Int}(hx:-1≤x∧x≤1)(hy:-1≤y∧y≤1):uk .i64 x y=x*y:=q19 (by have:=qEm hx hy;omega)
end Go.Eng

namespace Go.Eng
def mv:List Int→Int
 | []=>0
 | x::l=>x+1000000000*mv l
def pB(n:Nat):Int:=1000000000^n
theorem q5j:pB 0=1:=rfl
theorem q9t(n:Nat):pB (n+1)=pB n*1000000000:=Int.pow_succ _ _
theorem qaL:∀n,0<pB n
 | 0=>by decide
 | n+1=>by rw[q9t];have:=qaL n;omega
theorem qDN(m n:Nat):pB (m+n)=pB m*pB n:=Int.pow_add _ _ _
theorem qbE{m n:Nat}(h:m≤n):pB m≤pB n:=by
 obtain⟨k,rfl⟩:∃k,n=m+k:=⟨n-m,by omega⟩
 induction k with
 | zero=>simp
 | succ k ih=>
  have h1:=ih (by omega)
  rw[show m+(k+1)=(m+k)+1 by omega,q9t]
  have:=qaL (m+k)
  omega
def dgs(l:List Int):Prop:=∀x,x∈l→0≤x∧x<1000000000
theorem qw0:∀(l:List Int) (j:Nat) (h:j<l.length) (y:Int),mv (l.set j y)=mv l+(y-l[j])*pB j
 | [],j,h,_=>by simp at h
 | x::l,0,_,y=>by simp only[List.set_cons_zero,mv,List.getElem_cons_zero,q5j];omega
 | x::l,j+1,h,y=>by
  have ih:=qw0 l j (by simpa using h) y
  simp only[List.set_cons_succ,mv,List.getElem_cons_succ,q9t]
  rw[ih]
  grind
theorem qxg:∀(l:List Int) (n:Nat),dgs l→(∀i,n≤i→l.getD i 0=0)→0≤mv l∧mv l<pB n
 | [],n,_,_=>⟨Int.le_refl _,qaL n⟩
 | x::l,0,hd,hz=>by
  have ih:=qxg l 0 (fun y hy=>hd y (List.mem_cons_of_mem _ hy)) (fun i _=>by have:=hz (i+1) (by omega);simpa using this)
  have hx:x=0:=by simpa using hz 0 (by omega)
  rw[q5j] at ih ⊢
  simp only[mv];omega
 | x::l,n+1,hd,hz=>by
  have ih:=qxg l n (fun y hy=>hd y (List.mem_cons_of_mem _ hy)) (fun i hi=>by have:=hz (i+1) (by omega);simpa using this)
  have hx:=hd x List.mem_cons_self
  rw[q9t]
  simp only[mv]
  generalize pB n=p at *
  omega
theorem qDx:∀(l:List Int) (j:Nat) (h:j<l.length),dgs l→l[j]≠0→pB j≤mv l
 | [],j,h,_,_=>by simp at h
 | x::l,0,_,hd,hx=>by
  have h1:=hd x List.mem_cons_self
  have h2:=(qxg l l.length (fun y hy=>hd y (List.mem_cons_of_mem _ hy)) (fun i hi=>by simp[List.getD_eq_getElem?_getD,hi])).1
  simp only[List.getElem_cons_zero] at hx
  simp only[mv,q5j];omega
 | x::l,j+1,h,hd,hx=>by
  have ih:=qDx l j (by simpa using h) (fun y hy=>hd y (List.mem_cons_of_mem _ hy)) (by simpa using hx)
  have h1:=hd x List.mem_cons_self
  rw[q9t]
  simp only[mv];omega
theorem qwa:∀(s t:List Int),mv (s++t)=mv s+pB s.length*mv t
 | [],t=>by simp[mv,q5j]
 | x::s,t=>by
  simp only[List.cons_append,mv,List.length_cons,q9t]
  rw[qwa s t];grind
theorem qd5(n:Nat):mv (List.replicate n 0)=0:=by
 induction n with
 | zero=>rfl
 | succ n ih=>simp[List.replicate_succ,mv,ih]
theorem qb9{l:List Int}{i:Nat}(h:i<l.length):mv (l.drop i)=l[i]+1000000000*mv (l.drop (i+1)):=by
 rw[List.drop_eq_getElem_cons h];rfl
theorem vF{l:List Int}{n i:Nat}(hd:dgs l)(hz:∀i,n≤i→l.getD i 0=0)(hi:n≤i):mv (l.drop i)=0:=by
 have:=qxg (l.drop i) 0 (fun x hx=>hd x (List.mem_of_mem_drop hx)) (fun j _=>by
  have:=hz (i+j) (by omega)
  simpa[List.getD_eq_getElem?_getD] using this)
 rw[q5j] at this
 omega
structure WOK (n:Nat) (l:List Int):Prop where
 len:l.length=232
 le:n≤232
 dig:dgs l
 z:∀i,n≤i→l.getD i 0=0
def nrm(n:Nat)(l:List Int):Prop:=n=0∨l.getD (n-1) 0≠0
theorem WOK.bd{n:Nat}{l:List Int}(h:WOK n l):0≤mv l∧mv l<pB n:=qxg l n h.dig h.z
theorem WOK.lo{n:Nat}{l:List Int}(h:WOK n l)(hn:nrm n l)(h0:n≠0):pB (n-1)≤mv l:=by
 have h1:=h.le
 have h2:=h.len
 rcases hn with hn|hn
 ·exact absurd hn h0
 ·refine qDx l (n-1) (by omega) h.dig ?_
  rwa [jz (by omega)] at hn
theorem qsb(N i:Nat):(List.replicate N (0:Int)).getD i 0=0:=by
 rw[List.getD_eq_getElem?_getD,List.getElem?_replicate];split<;>rfl
theorem qy6(N:Nat):dgs (List.replicate N 0):=fun x hx=>by
 have:=(List.mem_replicate.1 hx).2
 omega
theorem WOK.zero:WOK 0 (List.replicate 232 0):=
 ⟨List.length_replicate,by omega,qy6 232,fun i _=>qsb 232 i⟩
theorem WOK.get{n:Nat}{l:List Int}(h:WOK n l)(i:Nat):0≤l.getD i 0∧l.getD i 0<1000000000:=by
 rcases Nat.lt_or_ge i l.length with hi|hi
 ·rw[jz hi];exact h.dig _ (List.getElem_mem hi)
 ·simp[List.getD_eq_getElem?_getD,hi]
theorem WOK.setW{n:Nat}{l:List Int}(h:WOK n l){j:Nat}{y:Int}(hj:j<232)(hy:0≤y∧y<1000000000):WOK (max n (j+1)) (l.set j y):=by
 have h1:=h.le
 refine⟨by simp[h.len],by omega,fun x hx=>?_,fun i hi=>?_⟩
 ·rcases List.mem_or_eq_of_mem_set hx with hx|rfl
  ·exact h.dig x hx
  ·exact hy
 ·have:=h.z i (by omega)
  rw[List.getD_eq_getElem?_getD,List.getElem?_set_ne (by omega),←List.getD_eq_getElem?_getD]
  exact this
theorem q4Y(l:List Int)(i:Nat):cI (rI l) (i:Int) 0=l.getD i 0:=by rw[qC8,Int.toNat_natCast]
theorem qic(l:List Int)(i:Nat)(v:Int):q6W (rI l) (i:Int) 0 [.i v]=rI (l.set i v):=by rw[qt1,Int.toNat_natCast]
theorem qim{n:Nat}{l:List Int}(h:WOK n l)(b:Bool):∃m,(qB [.b b,.i (n:Int),.r (rI l)]).run=some (0,[.b b,.i ((m:Nat):Int),.r (rI l)])∧WOK m l∧nrm m l:=by
 rw[qeV]
 have h232:=h.le
 obtain⟨j,qs,h1,rfl,m,rfl,h3,h4⟩:=u7 (S:=jn) (fun k ps=>ps=[.b b,.i (k:Int),.r (rI l)]∧WOK k l)
  (fun j qs=>j=0∧∃m:Nat,qs=[.b b,.i (m:Int),.r (rI l)]∧WOK m l∧nrm m l) (n:=n) (by omega) (fun k ps hk ⟨hps,hw⟩=>by
  subst hps
  rw[qcS]
  have hk2:=hw.le
  by_cases h0:k=0
  ·right
   refine⟨0,_,?_,rfl,k,rfl,hw,.inl h0⟩
   simp only[STD,h0]
   rfl
  ·have hs:qw .i64 (k:Int) 1=((k-1:Nat):Int):=by rw[w9 (by omega)];omega
   have a1:(0:Int)<(k:Int):=by omega
   have a2:(0:Int)≤((k-1:Nat):Int)∧((k-1:Nat):Int)<232:=by omega
   by_cases hz:l.getD (k-1) 0=0
   ·left
    refine⟨k-1,[.b b,.i ((k-1:Nat):Int),.r (rI l)],by omega,?_,rfl,hw.len,by omega,hw.dig,fun i hi=>?_⟩
    ·simp only[STD,a1,hs,a2,q4Y,hz,and_self]
    ·rcases Nat.eq_or_lt_of_le hi with e|e
     ·rw[←e];exact hz
     ·exact hw.z i (by omega)
   ·right
    refine⟨0,[.b b,.i (k:Int),.r (rI l)],?_,rfl,k,rfl,hw,.inr hz⟩
    simp only[STD,a1,hs,a2,q4Y,hz,and_self]) (ps:=[.b b,.i (n:Int),.r (rI l)]) ⟨rfl,h⟩
 exact⟨m,by simp only[STD,h1],h3,h4⟩
theorem qDD(s:Int):∃q r:Int,s.tdiv 1000000000=q∧s=q*1000000000+r∧(0≤s→0≤r)∧(s≤0→r≤0)∧-1000000000<r∧r<1000000000:=by
 obtain⟨h1,h2,h3,h4⟩:=qkl s (show (1000000000:Int)≠0 by decide)
 refine⟨_,q69 s 1000000000,rfl,by omega,h3,h4,by omega,by omega⟩
theorem qxf{f up rest:Int}{i n j:Nat}{l ly:List Int}{bx b2:Bool}{ny:Nat}{S:Int}(hj:((j:Nat):Int)=qj .i64 (i:Int) up)(hj2:j<232)(hw:WOK n l)(hin:i<233)
  (hS:S=if i<ny then l.getD j 0+rest+f*ly.getD i 0 else l.getD j 0+rest) (hr:-1000000000≤rest∧rest≤1000000000) (hfy:-999999999999999999≤f*ly.getD i 0∧f*ly.getD i 0≤999999999999999999) (hny:ny≤232)
  (hgo:i<ny∨rest≠0) :
  ∃q s:Int,S=q*1000000000+s∧0≤s∧s<1000000000 ∧
   (j1 [.i f,.i up,.i rest,.i (i:Int),.b bx,.i (n:Int),.r (rI l),.b b2,.i (ny:Int),.r (rI ly)]).run=some (0,[.i f,.i up,.i q,.i ((i+1:Nat):Int),.b bx,.i ((max n (j+1):Nat):Int),.r (rI (l.set j s)),.b b2,.i (ny:Int),.r (rI ly)]):=by
 have hg:=hw.get j
 obtain⟨q,r,e1,e2,e3,e4,e5,e6⟩:=qDD S
 have hSb:-1000000000999999999≤S∧S≤1000000001999999998:=by rw[hS];split<;>omega
 have w1:u6 .i64 S 1000000000=q:=by
  unfold u6
  rw[e1]
  unfold IntKind.wrap
  simp[IntKind.signed,IntKind.bits];omega
 have w2:uk .i64 q 1000000000=q*1000000000:=q19 (by omega)
 have w3:qw .i64 S (q*1000000000)=r:=by rw[w9 (by omega)];omega
 have w4:qj .i64 (l.getD j 0) rest=l.getD j 0+rest:=z8 (by omega)
 have w5:qj .i64 (i:Int) 1=((i+1:Nat):Int):=by rw[z8 (by omega)];omega
 have w6:qj .i64 (j:Int) 1=((j+1:Nat):Int):=by rw[z8 (by omega)];omega
 have w7:qer (n:Int) ((j+1:Nat):Int)=((max n (j+1):Nat):Int):=qrp _ _
 have a1:(0:Int)≤(j:Int)∧(j:Int)<232:=by omega
 have hw8:r<0→qj .i64 r 1000000000=r+1000000000:=fun _=>z8 (by omega)
 have hw9:r<0→qw .i64 q 1=q-1:=fun _=>w9 (by omega)
 rw[q75]
 by_cases hi:i<ny
 ·rw[if_pos hi] at hS
  have a2:(i:Int)<(ny:Int):=by omega
  have a3:(0:Int)≤(i:Int)∧(i:Int)<232:=by omega
  have w10:uk .i64 f (ly.getD i 0)=f*ly.getD i 0:=q19 (by omega)
  have w11:qj .i64 (l.getD j 0+rest) (f*ly.getD i 0)=S:=by rw[z8 (by omega),hS]
  by_cases hneg:r<0
  ·refine⟨q-1,r+1000000000,by omega,by omega,by omega,?_⟩
   simp only[STD,a2,←hj,a1,a3,q4Y,w4,w10,w11,w1,w2,w3,hneg,hw8 hneg,hw9 hneg,w5,w6,w7,qic,and_self]
  ·refine⟨q,r,by omega,by omega,by omega,?_⟩
   simp only[STD,a2,←hj,a1,a3,q4Y,w4,w10,w11,w1,w2,w3,hneg,w5,w6,w7,qic,and_self]
 ·rw[if_neg hi] at hS
  have hr0:rest≠0:=hgo.resolve_left hi
  have a2:¬(i:Int)<(ny:Int):=by omega
  rw[←hS] at w4
  by_cases hneg:r<0
  ·refine⟨q-1,r+1000000000,by omega,by omega,by omega,?_⟩
   simp only[STD,a2,hr0,←hj,a1,q4Y,w4,w1,w2,w3,hneg,hw8 hneg,hw9 hneg,w5,w6,w7,qic,and_self]
  ·refine⟨q,r,by omega,by omega,by omega,?_⟩
   simp only[STD,a2,hr0,←hj,a1,q4Y,w4,w1,w2,w3,hneg,w5,w6,w7,qic,and_self]
theorem qoq{f:Int}{up nx ny:Nat}{lx ly:List Int}(hx:WOK nx lx)(hy:WOK ny ly)(hf:-999999999≤f∧f≤999999999)(hup:ny+up≤232){T:Int}(hT:T=mv lx+f*mv ly*pB up)(h0:0≤T)(h1:T<pB 232)(bx b2:Bool) :
  ∃(n:Nat) (l:List Int),(qL [.i f,.i (up:Int),.b bx,.i (nx:Int),.r (rI lx),.b b2,.i (ny:Int),.r (rI ly)]).run=some (0,[.b bx,.i (n:Int),.r (rI l),.b b2,.i (ny:Int),.r (rI ly)])∧WOK n l∧nrm n l∧mv l=T:=by
 rw[qhS]
 have hny:=hy.le
 obtain⟨j,qs,g1,rfl,n,l,rfl,g3,g4⟩:=u7 (S:=j1) (fun k ps=>∃(i n:Nat) (rest:Int) (l:List Int),ps=[.i f,.i (up:Int),.i rest,.i (i:Int),.b bx,.i (n:Int),.r (rI l),.b b2,.i (ny:Int),.r (rI ly)] ∧
   i+k=300∧i≤232∧WOK n l∧-1000000000≤rest∧rest≤1000000000∧mv l+rest*pB (i+up)+f*mv (ly.drop i)*pB (i+up)=T)
  (fun j qs=>j=0∧∃(n:Nat) (l:List Int),qs=[.b bx,.i (n:Int),.r (rI l),.b b2,.i (ny:Int),.r (rI ly)]∧WOK n l∧mv l=T) (n:=300) (by omega) (fun k ps hk ⟨i,n,rest,l,hps,hik,hi,hw,hr1,hr2,hv⟩=>by
  subst hps
  have hg:=hy.get i
  have hfy:=qA4 (A:=999999999) (B:=999999999) hf.1 hf.2 (show -(999999999:Int)≤ly.getD i 0 by omega) (show ly.getD i 0≤999999999 by omega)
  have hbd:=hw.bd
  have hn232:=hw.le
  by_cases hgo:i<ny∨rest≠0
  ·left
   have hj:i+up<232:=by
    rcases Nat.lt_or_ge i ny with h|h
    ·omega
    ·rcases Nat.lt_or_ge (i+up) 232 with h2|h2
     ·exact h2
     ·exfalso
      have hr0:=hgo.resolve_left (by omega)
      rw[vF hy.dig hy.z h] at hv
      have hP:=qbE h2
      have hlt:=qbE hn232
      simp only[Int.mul_zero,Int.zero_mul,Int.add_zero] at hv
      generalize pB (i+up)=P at *
      rcases Int.lt_or_lt_of_ne hr0 with h3|h3
      ·have:rest*P≤-1*P:=Int.mul_le_mul_of_nonneg_right (by omega) (by have:=qaL 232;omega)
       omega
      ·have:1*P≤rest*P:=Int.mul_le_mul_of_nonneg_right (by omega) (by have:=qaL 232;omega)
       omega
   have hjw:(((i+up:Nat)):Int)=qj .i64 (i:Int) (up:Int):=by rw[z8 (by omega)];omega
   obtain⟨q,s,s1,s2,s3,s4⟩:=qxf (bx:=bx) (b2:=b2) (f:=f) (ly:=ly) hjw hj hw (by omega) rfl ⟨hr1,hr2⟩ (by omega) hny hgo
   refine⟨k-1,_,by omega,s4,i+1,_,q,_,rfl,by omega,by omega,hw.setW hj ⟨s2,s3⟩,?_,?_,?_⟩
   ·have hgl:=hw.get (i+up)
    split at s1<;>omega
   ·have hgl:=hw.get (i+up)
    split at s1<;>omega
   ·have hjl:i+up<l.length:=by rw[hw.len];exact hj
    rw[qw0 l (i+up) hjl,←hv,show i+1+up=(i+up)+1 by omega,q9t]
    rw[jz hjl] at s1
    have hil:i<ly.length:=by rw[hy.len];omega
    rw[qb9 hil]
    rw[jz hil] at s1
    generalize pB (i+up)=P at *
    generalize l[i+up]=d at *
    by_cases hiny:i<ny
    ·rw[if_pos hiny] at s1
     generalize ly[i]=y at *
     generalize mv (ly.drop (i+1))=m at *
     grind
    ·rw[if_neg hiny] at s1
     have z1:ly[i]=0:=by rw[←jz hil];exact hy.z i (by omega)
     rw[z1,vF hy.dig hy.z (show ny≤i+1 by omega)]
     grind
  ·right
   have c1:¬i<ny:=fun h=>hgo (.inl h)
   have c2:rest=0:=Decidable.byContradiction fun h=>hgo (.inr h)
   refine⟨0,[.b bx,.i (n:Int),.r (rI l),.b b2,.i (ny:Int),.r (rI ly)],?_,rfl,n,l,rfl,hw,?_⟩
   ·rw[q75]
    have a2:¬(i:Int)<(ny:Int):=by omega
    simp only[STD,a2,c2]
   ·rw[vF hy.dig hy.z (by omega),c2] at hv
    simp only[Int.mul_zero,Int.zero_mul,Int.add_zero] at hv
    exact hv) (ps:=[.i f,.i (up:Int),.i 0,.i 0,.b bx,.i (nx:Int),.r (rI lx),.b b2,.i (ny:Int),.r (rI ly)])
  ⟨0,nx,0,lx,rfl,by omega,by omega,hx,by omega,by omega,by simp[hT]⟩
 obtain⟨m,t1,t2,t3⟩:=qim g3 bx
 exact⟨m,l,by simp only[STD,g1,t1],t2,t3,g4⟩
end Go.Eng

namespace Go.Eng
theorem qat(l:List Int)(j:Nat)(h:j≤l.length):mv l=mv (l.take j)+pB j*mv (l.drop j):=by
 have:=qwa (l.take j) (l.drop j)
 rw[List.take_append_drop,List.length_take,Nat.min_eq_left h] at this
 exact this
theorem qB5{l:List Int}(h:dgs l)(j:Nat):dgs (l.take j):=fun x hx=>h x (List.mem_of_mem_take hx)
theorem q8W{l:List Int}(h:dgs l)(j:Nat):0≤mv (l.take j)∧mv (l.take j)<pB j:=
 qxg (l.take j) j (qB5 h j) fun i hi=>by
  rw[List.getD_eq_getElem?_getD,List.getElem?_eq_none (by simp;omega)];rfl
theorem qlo{l:List Int}{i:Nat}(h:i<l.length):mv (l.take (i+1))=mv (l.take i)+l[i]*pB i:=by
 rw[List.take_succ_eq_append_getElem h,qwa,List.length_take,Nat.min_eq_left (by omega)]
 simp only[mv]
 grind
theorem WOK.mono{n m:Nat}{l:List Int}(h:WOK n l)(hm:n≤m)(h2:m≤232):WOK m l:=⟨h.len,h2,h.dig,fun i hi=>h.z i (by omega)⟩
theorem qj3{n:Nat}{l:List Int}(h:WOK n l)(hn:nrm n l):(n=0)=(mv l=0):=by
 apply propext
 constructor
 ·intro h0
  have:=h.bd
  rw[h0,q5j] at this;omega
 ·intro h0
  rcases Nat.eq_zero_or_pos n with h1|h1
  ·exact h1
  ·have:=h.lo hn (by omega)
   have:=qaL (n-1)
   omega
theorem qEg{n m:Nat}{l k:List Int}(h:WOK n l)(hn:nrm n l)(h2:WOK m k)(hle:mv l≤mv k):n≤m:=by
 rcases Nat.lt_or_ge m n with h3|h3
 ·exfalso
  have h4:=h.lo hn (by omega)
  have h5:=h2.bd.2
  have h6:=qbE (show m≤n-1 by omega)
  omega
 ·exact h3
theorem qwj{nx ny:Nat}{lx ly:List Int}(hx:WOK nx lx)(hnx:nrm nx lx)(hy:WOK ny ly)(hny:nrm ny ly)(bx b2:Bool) :
  ∃r:Int,(zL [.b bx,.i (nx:Int),.r (rI lx),.b b2,.i (ny:Int),.r (rI ly)]).run=some (0,[.i r,.b bx,.i (nx:Int),.r (rI lx),.b b2,.i (ny:Int),.r (rI ly)])∧((0≤r)=(mv ly≤mv lx)):=by
 rw[qgi]
 have h1:=hx.le
 have h2:=hy.le
 by_cases hne:nx=ny
 ·subst hne
  have hs:qw .i64 (nx:Int) 1=(nx:Int)-1:=w9 (by omega)
  obtain⟨j,qs,g1,g2⟩:=u7 (S:=jO) (fun k ps=>ps=[.i ((k:Int)-1),.b bx,.i (nx:Int),.r (rI lx),.b b2,.i (nx:Int),.r (rI ly)]∧k≤nx∧mv (lx.drop k)=mv (ly.drop k))
   (fun j qs=>(j=0∧qs=[.b bx,.i (nx:Int),.r (rI lx),.b b2,.i (nx:Int),.r (rI ly)]∧mv lx=mv ly)∨(j=1∧∃r:Int,qs=[.i r,.b bx,.i (nx:Int),.r (rI lx),.b b2,.i (nx:Int),.r (rI ly)]∧((0≤r)=(mv ly≤mv lx)))) (n:=nx) (by omega) (fun k ps hk ⟨hps,hkn,hd⟩=>by
   subst hps
   rw[qeq]
   by_cases h0:k=0
   ·right
    refine⟨0,_,?_,.inl ⟨rfl,rfl,?_⟩⟩
    ·have a:¬(0:Int)≤(k:Int)-1:=by omega
     simp only[STD,a]
    ·rw[h0] at hd;simpa using hd
   ·obtain⟨i,rfl⟩:∃i,k=i+1:=⟨k-1,by omega⟩
    have e:(((i+1:Nat):Int)-1)=(i:Int):=by omega
    rw[e]
    have a1:(0:Int)≤(i:Int):=by omega
    have a2:(i:Int)<232:=by omega
    have gx:=hx.get i
    have gy:=hy.get i
    have hxl:i<lx.length:=by rw[hx.len];omega
    have hyl:i<ly.length:=by rw[hy.len];omega
    by_cases hc:lx.getD i 0=ly.getD i 0
    ·left
     refine⟨i,[.i ((i:Int)-1),.b bx,.i (nx:Int),.r (rI lx),.b b2,.i (nx:Int),.r (rI ly)],by omega,?_,rfl,by omega,?_⟩
     ·have w:qw .i64 (i:Int) 1=(i:Int)-1:=w9 (by omega)
      simp only[STD,a1,a2,and_self,q4Y,hc,w]
     ·rw[qb9 hxl,qb9 hyl,hd]
      rw[jz hxl,jz hyl] at hc
      rw[hc]
    ·right
     have w:qw .i64 (lx.getD i 0) (ly.getD i 0)=lx.getD i 0-ly.getD i 0:=w9 (by omega)
     refine⟨1,[.i (lx.getD i 0-ly.getD i 0),.b bx,.i (nx:Int),.r (rI lx),.b b2,.i (nx:Int),.r (rI ly)],?_,.inr ⟨rfl,_,rfl,?_⟩⟩
     ·simp only[STD,a1,a2,and_self,q4Y,hc,w]
     ·have sx:=qat lx i (by omega)
      have sy:=qat ly i (by omega)
      rw[qb9 hxl] at sx
      rw[qb9 hyl] at sy
      have tx:=q8W hx.dig i
      have ty:=q8W hy.dig i
      rw[jz hxl,jz hyl] at hc ⊢
      rw[hd] at sx
      have hp:=qaL i
      generalize pB i=P at *
      generalize lx[i]=u at *
      generalize ly[i]=v at *
      generalize mv (ly.drop (i+1))=w at *
      have e1:P*(u+1000000000*w)=P*u+P*(1000000000*w):=Int.mul_add _ _ _
      have e2:P*(v+1000000000*w)=P*v+P*(1000000000*w):=Int.mul_add _ _ _
      have e3:P*(u-v)=P*u-P*v:=Int.mul_sub _ _ _
      apply propext
      rcases Int.lt_or_lt_of_ne (show u-v≠0 by omega) with h|h
      ·have:P*(u-v)≤P*(-1):=Int.mul_le_mul_of_nonneg_left (by omega) (by omega)
       constructor
       ·intro;omega
       ·intro;omega
      ·have:P*1≤P*(u-v):=Int.mul_le_mul_of_nonneg_left (by omega) (by omega)
       constructor
       ·intro;omega
       ·intro;omega) (ps:=[.i ((nx:Int)-1),.b bx,.i (nx:Int),.r (rI lx),.b b2,.i (nx:Int),.r (rI ly)])
   ⟨rfl,Nat.le_refl _,by rw[vF hx.dig hx.z (Nat.le_refl _),vF hy.dig hy.z (Nat.le_refl _)]⟩
  rcases g2 with⟨rfl,rfl,g2⟩|⟨rfl,r,rfl,g2⟩
  ·refine⟨0,?_,?_⟩
   ·simp only[STD,hs,g1,zk g1]
   ·apply propext;simp;omega
  ·refine⟨r,?_,g2⟩
   simp only[STD,hs,g1,zk g1,show ¬(1=0) by omega]
 ·have hs:qw .i64 (nx:Int) (ny:Int)=(nx:Int)-(ny:Int):=w9 (by omega)
  refine⟨(nx:Int)-(ny:Int),?_,?_⟩
  ·have a:¬(nx:Int)=(ny:Int):=by omega
   simp only[STD,a,hs]
  ·apply propext
   have b1:=hx.bd
   have b2:=hy.bd
   rcases Nat.lt_or_gt_of_ne hne with h|h
   ·have:=hy.lo hny (by omega)
    have:=qbE (show nx≤ny-1 by omega)
    constructor
    ·intro;omega
    ·intro;omega
   ·have:=hx.lo hnx (by omega)
    have:=qbE (show ny≤nx-1 by omega)
    constructor
    ·intro;omega
    ·intro;omega
def sv(b:Bool)(l:List Int):Int:=if b then -mv l else mv l
theorem qBD{nx ny:Nat}{lx ly:List Int}(hx:WOK nx lx)(hnx:nrm nx lx)(hy:WOK ny ly)(hny:nrm ny ly)(hb:mv lx+mv ly<pB 232)(bx b2:Bool) :
  ∃(b:Bool) (n:Nat) (l:List Int),(wy [.b bx,.i (nx:Int),.r (rI lx),.b b2,.i (ny:Int),.r (rI ly)]).run=some (0,[.b b,.i (n:Int),.r (rI l),.b b2,.i (ny:Int),.r (rI ly)])∧WOK n l∧nrm n l∧sv b l=sv bx lx+sv b2 ly:=by
 rw[qjG]
 have h1:=hx.bd
 have h2:=hy.bd
 have l1:=hx.le
 have l2:=hy.le
 by_cases hs:bx=b2
 ·subst hs
  obtain⟨n,l,g1,g2,g3,g4⟩:=qoq (f:=1) (up:=0) hx hy (by omega) (by omega) (T:=mv lx+mv ly) (by rw[q5j];omega) (by omega) hb bx bx
  refine⟨bx,n,l,?_,g2,g3,?_⟩
  ·simp only[STD,show ((0:Nat):Int)=0 from rfl] at g1 ⊢
   simp only[STD,g1]
  ·unfold sv;rw[g4];cases bx<;>simp<;>omega
 ·obtain⟨r,r1,r2⟩:=qwj hx hnx hy hny bx b2
  by_cases hr:mv ly≤mv lx
  ·have hr':0≤r:=by rw[r2];exact hr
   obtain⟨n,l,g1,g2,g3,g4⟩:=qoq (f:=-1) (up:=0) hx hy (by omega) (by omega) (T:=mv lx-mv ly) (by rw[q5j];omega) (by omega) (by omega) bx b2
   refine⟨bx,n,l,?_,g2,g3,?_⟩
   ·simp only[show ((0:Nat):Int)=0 from rfl] at g1
    simp only[STD,hs,r1,hr',g1]
   ·unfold sv;rw[g4];cases bx<;>cases b2<;>simp_all<;>omega
  ·have hr':¬0≤r:=by rw[r2];exact hr
   obtain⟨n,l,g1,g2,g3,g4⟩:=qoq (f:=-1) (up:=0) hy hx (by omega) (by omega) (T:=mv ly-mv lx) (by rw[q5j];omega) (by omega) (by omega) b2 bx
   refine⟨b2,n,l,?_,g2,g3,?_⟩
   ·simp only[show ((0:Nat):Int)=0 from rfl] at g1
    simp only[STD,hs,r1,hr',g1]
   ·unfold sv;rw[g4];cases bx<;>cases b2<;>simp_all<;>omega
theorem qxW{x y:Int}{m n:Nat}(h0:0≤x)(h1:x<pB m)(h2:0≤y)(h3:y≤pB n):x*y<pB (m+n)∨y=0:=by
 rcases Int.lt_or_eq_of_le h2 with h|h
 ·left
  rw[qDN]
  have e1:x*y<pB m*y:=Int.mul_lt_mul_of_pos_right h1 h
  have e2:pB m*y≤pB m*pB n:=Int.mul_le_mul_of_nonneg_left h3 (by omega)
  omega
 ·exact .inr h.symm
theorem qBI{nx ny:Nat}{lx ly:List Int}(hx:WOK nx lx)(hy:WOK ny ly)(hb:nx+ny≤232)(bx b2:Bool) :
  ∃(n:Nat) (l:List Int),(km [.b bx,.i (nx:Int),.r (rI lx),.b b2,.i (ny:Int),.r (rI ly)]).run=some (0,[.b bx,.i (nx:Int),.r (rI lx),.b b2,.i (ny:Int),.r (rI ly),.b (!(Go.Eng.beq bx b2)),.i (n:Int),.r (rI l)])∧WOK n l∧nrm n l∧mv l=mv lx*mv ly:=by
 rw[qhA]
 have hbx:=hx.bd
 have e0:q3x 232 [.i 0]=rI (List.replicate 232 0):=qhN 232 0
 obtain⟨j,qs,g1,rfl,n,l,rfl,g2,g3,g4⟩:=u7 (S:=yR) (fun k ps=>∃(i n:Nat) (l:List Int),ps=[.i (ny:Int),.i (i:Int),.b bx,.i (nx:Int),.r (rI lx),.b b2,.i (ny:Int),.r (rI ly),.b (!(Go.Eng.beq bx b2)),.i (n:Int),.r (rI l)] ∧
   i+k=ny∧WOK n l∧nrm n l∧mv l=mv lx*mv (ly.take i))
  (fun j qs=>j=0∧∃(n:Nat) (l:List Int),qs=[.b bx,.i (nx:Int),.r (rI lx),.b b2,.i (ny:Int),.r (rI ly),.b (!(Go.Eng.beq bx b2)),.i (n:Int),.r (rI l)]∧WOK n l∧nrm n l∧mv l=mv lx*mv ly) (n:=ny) (by omega) (fun k ps hk ⟨i,n,l,hps,hik,hw,hn,hv⟩=>by
  subst hps
  rw[qez]
  by_cases hi:i<ny
  ·left
   have hil:i<ly.length:=by rw[hy.len];omega
   have gy:=hy.get i
   have tb:=q8W hy.dig i
   have tb2:=q8W hy.dig (i+1)
   have hT:mv lx*mv (ly.take (i+1))=mv l+ly.getD i 0*mv lx*pB i:=by
    rw[qlo hil,hv,jz hil];grind
   have hlt:mv lx*mv (ly.take (i+1))<pB 232:=by
    rcases qxW (n:=i+1) hbx.1 hbx.2 tb2.1 (by omega) with h|h
    ·exact Int.lt_of_lt_of_le h (qbE (by omega))
    ·rw[h,Int.mul_zero];exact qaL _
   obtain⟨n',l',c1,c2,c3,c4⟩:=qoq (f:=ly.getD i 0) (up:=i) hw hx (by omega) (by omega) hT (Int.mul_nonneg hbx.1 tb2.1) hlt (!(Go.Eng.beq bx b2)) bx
   have w:qj .i64 (i:Int) 1=((i+1:Nat):Int):=by rw[z8 (by omega)];omega
   refine⟨k-1,_,by omega,?_,i+1,n',l',rfl,by omega,c2,c3,c4⟩
   have a1:(i:Int)<(ny:Int):=by omega
   have a2:(0:Int)≤(i:Int)∧(i:Int)<232:=by omega
   simp only[STD,a1,a2,and_self,q4Y,c1,w]
  ·right
   have hi2:i=ny:=by omega
   have a1:¬(i:Int)<(ny:Int):=by omega
   refine⟨0,[.b bx,.i (nx:Int),.r (rI lx),.b b2,.i (ny:Int),.r (rI ly),.b (!(Go.Eng.beq bx b2)),.i (n:Int),.r (rI l)],?_,rfl,n,l,rfl,hw,hn,?_⟩
   ·simp only[STD,a1]
   ·have:=qat ly ny (by rw[hy.len];exact hy.le)
    rw[vF hy.dig hy.z (Nat.le_refl _),Int.mul_zero,Int.add_zero] at this
    rw[hv,hi2,←this])
  (ps:=[.i (ny:Int),.i 0,.b bx,.i (nx:Int),.r (rI lx),.b b2,.i (ny:Int),.r (rI ly),.b (!(Go.Eng.beq bx b2)),.i 0,.r (rI (List.replicate 232 0))])
  ⟨0,0,_,rfl,by omega,WOK.zero,.inl rfl,by rw[qd5];simp[mv]⟩
 refine⟨n,l,?_,g2,g3,g4⟩
 simp only[e0]
 simp only[STD,g1]
theorem qxR{nx ny:Nat}{lx ly:List Int}(hx:WOK nx lx)(hnx:nrm nx lx)(hy:WOK ny ly)(hny:nrm ny ly)(h0:ny≠0)(hle:mv ly≤mv lx)(hlt:mv lx<pB (ny+1))(hn231:ny≤231)(bx b2:Bool) :
  ∃k:Int,(yG [.b bx,.i (nx:Int),.r (rI lx),.b b2,.i (ny:Int),.r (rI ly)]).run=some (0,[.i k,.b bx,.i (nx:Int),.r (rI lx),.b b2,.i (ny:Int),.r (rI ly)])∧1≤k∧k≤999999999∧k*mv ly≤mv lx:=by
 rw[qkv]
 obtain⟨m,rfl⟩:∃m,ny=m+1:=⟨ny-1,by omega⟩
 have hxl:=hx.len
 have hyl:=hy.len
 have hnx1:m+1≤nx:=qEg hy hny hx hle
 have hnx2:nx≤m+2:=by
  rcases Nat.lt_or_ge (m+2) nx with h|h
  ·exfalso
   have h1:=hx.lo hnx (by omega)
   have h2:=qbE (show m+1+1≤nx-1 by omega)
   omega
  ·exact h
 have gx1:=hx.get m
 have gx2:=hx.get (m+1)
 have gy:=hy.get m
 have sx:=qat lx m (by omega)
 have sy:=qat ly m (by omega)
 rw[qb9 (show m<lx.length by omega),qb9 (show m+1<lx.length by omega),vF hx.dig hx.z (show nx≤m+1+1 by omega)] at sx
 rw[qb9 (show m<ly.length by omega),vF hy.dig hy.z (Nat.le_refl _)] at sy
 have tx:=q8W hx.dig m
 have ty:=q8W hy.dig m
 have hyn:ly.getD m 0≠0:=by
  rcases hny with h|h
  ·omega
  ·simpa using h
 have w1:qw .i64 ((m+1:Nat):Int) 1=(m:Int):=by rw[w9 (by omega)];omega
 have c1:¬((m+1:Nat):Int)<0:=by omega
 have c2:¬(nx:Int)≤(m:Int):=by omega
 have c3:¬(m:Int)<0:=by omega
 have c4:¬((m+1:Nat):Int)≤(m:Int):=by omega
 have c5:(0:Int)≤(m:Int)∧(m:Int)<232:=by omega
 have c6:(0:Int)≤((m+1:Nat):Int)∧((m+1:Nat):Int)<232:=by omega
 have gex:lx[m]'(by omega)=lx.getD m 0:=(jz (by omega)).symm
 have gex1:lx[m+1]'(by omega)=lx.getD (m+1) 0:=(jz (by omega)).symm
 have gey:ly[m]'(by omega)=ly.getD m 0:=(jz (by omega)).symm
 rw[gex,gex1] at sx
 rw[gey] at sy
 have hp:=qaL m
 have key:∀a b:Int,a=lx.getD m 0+1000000000*lx.getD (m+1) 0→0<b→mv ly≤b*pB m→∀k,k=a/b→k*mv ly≤mv lx∧q9E k 999999999*mv ly≤mv lx:=by
  intro a b ha hb hbY k hk
  have hk0:0≤k:=by rw[hk];exact Int.ediv_nonneg (by omega) (by omega)
  have hkb:k*b≤a:=by rw[hk];exact Int.ediv_mul_le a (by omega)
  have hY:=(hy.bd).1
  have f1:k*mv ly≤k*(b*pB m):=Int.mul_le_mul_of_nonneg_left hbY hk0
  have f2:k*b*pB m≤a*pB m:=Int.mul_le_mul_of_nonneg_right hkb (by omega)
  have f3:k*(b*pB m)=k*b*pB m:=(Int.mul_assoc _ _ _).symm
  have f4:a*pB m=pB m*(lx.getD m 0+1000000000*(lx.getD (m+1) 0+1000000000*0)):=by rw[ha];grind
  have f5:k*mv ly≤mv lx:=by omega
  refine⟨f5,?_⟩
  have:q9E k 999999999≤k:=by unfold q9E;split<;>omega
  have:=Int.mul_le_mul_of_nonneg_right this hY
  omega
 have wq:∀a b:Int,0≤a→a<1000000000000000000→0<b→u6 .i64 a b=a/b:=by
  intro a b h1 h2 h3
  unfold u6
  rw[Int.tdiv_eq_ediv_of_nonneg h1]
  have q1:0≤a/b:=Int.ediv_nonneg h1 (by omega)
  have q2:a/b≤a:=Int.ediv_le_self _ h1
  generalize a/b=q at *
  unfold IntKind.wrap
  simp[IntKind.signed,IntKind.bits];omega
 have fin:∀k:Int,(0<k→k*mv ly≤mv lx∧q9E k 999999999*mv ly≤mv lx)→∃k':Int,(if 0<k then q9E k 999999999 else 1)=k'∧1≤k'∧k'≤999999999∧k'*mv ly≤mv lx:=by
  intro k hk
  by_cases h:0<k
  ·rw[if_pos h]
   refine⟨_,rfl,?_,?_,(hk h).2⟩
   ·unfold q9E;split<;>omega
   ·unfold q9E;split<;>omega
  ·rw[if_neg h];exact⟨1,rfl,by omega,by omega,by omega⟩
 by_cases hcase:nx≤m+1
 ·have c7:(nx:Int)≤((m+1:Nat):Int):=by omega
  have z1:lx.getD (m+1) 0=0:=hx.z _ (by omega)
  have wa:qj .i64 0 (lx.getD m 0)=lx.getD m 0:=by rw[z8 (by omega)];omega
  by_cases hm:m=0
  ·subst hm
   have c8:¬(1:Int)<((0+1:Nat):Int):=by omega
   have hq:=wq (lx.getD 0 0) (ly.getD 0 0) (by omega) (by omega) (by omega)
   have hbY:mv ly≤ly.getD 0 0*pB 0:=by rw[q5j] at sy ty ⊢;omega
   obtain⟨k',f1,f2,f3,f4⟩:=fin (lx.getD 0 0/ly.getD 0 0) (fun _=>key _ _ (by rw[z1];omega) (by omega) hbY _ rfl)
   refine⟨k',?_,f2,f3,f4⟩
   rw[←f1]
   simp only[STD,c1,w1,c2,c3,c4,c5,c6,c7,c8,and_self,q4Y,wa,hyn,hq]
   split<;>rfl
  ·have c8:(1:Int)<((m+1:Nat):Int):=by omega
   have wb:qj .i64 (ly.getD m 0) 1=ly.getD m 0+1:=z8 (by omega)
   have hq:=wq (lx.getD m 0) (ly.getD m 0+1) (by omega) (by omega) (by omega)
   have hbY:mv ly≤(ly.getD m 0+1)*pB m:=by
    have:(ly.getD m 0+1)*pB m=pB m*(ly.getD m 0+1000000000*0)+pB m:=by grind
    omega
   obtain⟨k',f1,f2,f3,f4⟩:=fin (lx.getD m 0/(ly.getD m 0+1)) (fun _=>key _ _ (by rw[z1];omega) (by omega) hbY _ rfl)
   refine⟨k',?_,f2,f3,f4⟩
   rw[←f1]
   have hne:¬ly.getD m 0+1=0:=by omega
   simp only[STD,c1,w1,c2,c3,c4,c5,c6,c7,c8,and_self,q4Y,wa,wb,hne,hq]
   split<;>rfl
 ·have c7:¬(nx:Int)≤((m+1:Nat):Int):=by omega
  have wm:uk .i64 (lx.getD (m+1) 0) 1000000000=lx.getD (m+1) 0*1000000000:=q19 (by omega)
  have wa:qj .i64 (lx.getD (m+1) 0*1000000000) (lx.getD m 0)=lx.getD (m+1) 0*1000000000+lx.getD m 0:=z8 (by omega)
  by_cases hm:m=0
  ·subst hm
   have c8:¬(1:Int)<((0+1:Nat):Int):=by omega
   have hq:=wq (lx.getD (0+1) 0*1000000000+lx.getD 0 0) (ly.getD 0 0) (by omega) (by omega) (by omega)
   have hbY:mv ly≤ly.getD 0 0*pB 0:=by rw[q5j] at sy ty ⊢;omega
   obtain⟨k',f1,f2,f3,f4⟩:=fin ((lx.getD (0+1) 0*1000000000+lx.getD 0 0)/ly.getD 0 0) (fun _=>key _ _ (by omega) (by omega) hbY _ rfl)
   refine⟨k',?_,f2,f3,f4⟩
   rw[←f1]
   simp only[STD,c1,w1,c2,c3,c4,c5,c6,c7,c8,and_self,q4Y,wm,wa,hyn,hq]
   split<;>rfl
  ·have c8:(1:Int)<((m+1:Nat):Int):=by omega
   have wb:qj .i64 (ly.getD m 0) 1=ly.getD m 0+1:=z8 (by omega)
   have hq:=wq (lx.getD (m+1) 0*1000000000+lx.getD m 0) (ly.getD m 0+1) (by omega) (by omega) (by omega)
   have hbY:mv ly≤(ly.getD m 0+1)*pB m:=by
    have:(ly.getD m 0+1)*pB m=pB m*(ly.getD m 0+1000000000*0)+pB m:=by grind
    omega
   obtain⟨k',f1,f2,f3,f4⟩:=fin ((lx.getD (m+1) 0*1000000000+lx.getD m 0)/(ly.getD m 0+1)) (fun _=>key _ _ (by omega) (by omega) hbY _ rfl)
   refine⟨k',?_,f2,f3,f4⟩
   rw[←f1]
   have hne:¬ly.getD m 0+1=0:=by omega
   simp only[STD,c1,w1,c2,c3,c4,c5,c6,c7,c8,and_self,q4Y,wm,wa,wb,hne,hq]
   split<;>rfl
end Go.Eng

namespace Go.Eng
theorem qBE(u:Nat):Lib.decDigits u=tN u:=by
 induction u using Nat.strongRecOn with
 | _ u ih=>
  rw[Lib.decDigits]
  split
  ·rename_i h
   rw[qtG h];rfl
  ·rename_i h
   rw[ih (u/10) (by omega)]
   exact(quV (n:=u) (by omega)).symm
theorem qvo(n:Int):Lib.itoa n=tI n:=by
 unfold Lib.itoa
 by_cases h:n<0
 ·rw[if_pos h,qBE,qaU h]
 ·rw[if_neg h,qBE,qi9 h];congr 1;omega
theorem qCL(n:Int)(h:-9223372036854775808≤n∧n≤9223372036854775807):(q4f [.i n]).run=some (0,[.s (tI n)]):=by
 show (qzA [.i n]).run=_
 unfold qzA
 simp only
 rw[if_pos h,qvo];rfl
theorem qte{c:UInt8}(h:48≤c.toNat∧c.toNat≤57):Lib.digitVal c=some (dv c):=by
 unfold Lib.digitVal dv
 simp_all
theorem qnQ:∀{s:List UInt8} (a:Nat),q62 s→Lib.decFrom a s=some (a*10^s.length+val s)
 | [],a,_=>by simp[Lib.decFrom,val]
 | c::s,a,h=>by
  obtain⟨h1,h2⟩:=q0R.1 h
  rw[Lib.decFrom,qte h1]
  simp only
  rw[qnQ _ h2,q5D,List.length_cons,Nat.pow_succ]
  congr 1
  grind
theorem qpY{s:List UInt8}(h:q62 s)(hn:s≠[]):Lib.decNat s=some (val s):=by
 unfold Lib.decNat
 rw[if_neg (by simpa using hn),qnQ 0 h];simp
theorem qsa{s:List UInt8}(h:q62 s)(hn:s≠[]):Lib.atoi s=some (val s:Int):=by
 obtain⟨c,t,e,h1,h2⟩:=qg1 h hn
 rw[e] at h ⊢
 have n1:(c==45)=false:=by
  rw[beq_eq_false_iff_ne];intro hc;subst hc;revert h1;decide
 have n2:(c==43)=false:=by
  rw[beq_eq_false_iff_ne];intro hc;subst hc;revert h1;decide
 unfold Lib.atoi
 simp only[n1,n2,Bool.false_eq_true,if_false]
 rw[qpY h (by simp)];rfl
theorem qzo(m:Int):Lib.atoi (tI m)=some m:=by
 by_cases h:m<0
 ·rw[qaU h]
  unfold Lib.atoi
  simp only[beq_self_eq_true,if_true]
  rw[qpY (wl _) (qmP _),q0N]
  simp;omega
 ·rw[qi9 h,qsa (wl _) (qmP _),q0N]
  congr 1;omega
theorem qyX{s:List UInt8}{n:Int}(hl:s.length≤18)(h:Lib.atoi s=some n):(vO [.s s]).run=some (0,[.i n]):=by
 show (qzV [.s s]).run=_
 unfold qzV
 simp only
 rw[if_pos hl,h];rfl
theorem qwn:∀s:List UInt8,Lib.indexByte s 47=if sP s<s.length then (sP s:Int) else -1
 | []=>by simp[Lib.indexByte,sP]
 | c::s=>by
  have ih:=qwn s
  have hle:=qBG s
  unfold Lib.indexByte
  by_cases h:c=47
  ·subst h
   have:sP (47::s)=0:=qCY (by simp) (by simp) (fun j hj=>by omega)
   rw[this];simp
  ·have hc:(c==47)=false:=by simpa using h
   have e:sP (c::s)=sP s+1:=by
    unfold sP
    rw[List.findIdx_cons,hc];rfl
   rw[e]
   generalize sP s=k at *
   have el:(c::s).length=s.length+1:=rfl
   simp only[hc,el,ih,Bool.false_eq_true,if_false]
   grind
theorem qCe(s:List UInt8):(vK [.s s,.s [47]]).run=some (0,[.i (if sP s<s.length then (sP s:Int) else -1)]):=by
 show (qsD [.s s,.s [47]]).run=_
 unfold qsD
 simp only
 rw[←qwn];rfl
theorem qvF:∀{s t:List UInt8},q62 s→q62 t→s.length=t.length→Lib.compareBytes s t=sgn ((val s:Int)-(val t:Int))
 | [],[],_,_,_=>by simp[Lib.compareBytes,val,sgn]
 | [],_::_,_,_,h=>by simp at h
 | _::_,[],_,_,h=>by simp at h
 | a::s,b::t,hs,ht,h=>by
  obtain⟨h1,h2⟩:=q0R.1 hs
  obtain⟨h3,h4⟩:=q0R.1 ht
  have hl:s.length=t.length:=by simpa using h
  have ih:=qvF h2 h4 hl
  have v1:=q68 h2
  have v2:=q68 h4
  unfold Lib.compareBytes
  rw[q5D,q5D,hl]
  rw[hl] at v1
  have hp:0<10^t.length:=Nat.pow_pos (by omega)
  generalize 10^t.length=P at *
  unfold dv
  by_cases c1:a.toNat<b.toNat
  ·rw[if_pos (show a<b from c1)]
   have:(a.toNat-48+1)*P≤(b.toNat-48)*P:=Nat.mul_le_mul_right _ (by omega)
   rw[Nat.add_mul,Nat.one_mul] at this
   unfold sgn
   rw[if_pos (by omega)]
  ·rw[if_neg (show ¬a<b from c1)]
   by_cases c2:b.toNat<a.toNat
   ·rw[if_pos (show b<a from c2)]
    have:(b.toNat-48+1)*P≤(a.toNat-48)*P:=Nat.mul_le_mul_right _ (by omega)
    rw[Nat.add_mul,Nat.one_mul] at this
    unfold sgn
    rw[if_neg (by omega),if_neg (by omega)]
   ·rw[if_neg (show ¬b<a from c2),ih]
    have:a.toNat=b.toNat:=by omega
    rw[this]
    congr 1;omega
theorem qwP{s t:List UInt8}(hs:q62 s)(ht:q62 t)(h:s.length=t.length):(q2V [.s s,.s t]).run=some (0,[.i (sgn ((val s:Int)-(val t:Int)))]):=by
 show (qmi [.s s,.s t]).run=_
 unfold qmi
 simp only
 rw[qvF hs ht h];rfl
def qzt:List UInt8:=[48,49,50,51,52,53,54,55,56,57]
theorem qw1(c:UInt8):(qzt.contains c=true)↔(48≤c.toNat∧c.toNat≤57):=by
 constructor
 ·intro h
  simp only[qzt,List.contains_eq_mem,List.mem_cons,List.not_mem_nil,or_false,decide_eq_true_eq] at h
  rcases h with rfl|rfl|rfl|rfl|rfl|rfl|rfl|rfl|rfl|rfl<;>decide
 ·rintro ⟨h1,h2⟩
  have hk:∃k,c=UInt8.ofNat k∧48≤k∧k≤57:=⟨c.toNat,by simp,h1,h2⟩
  obtain⟨k,rfl,k1,k2⟩:=hk
  have:k=48∨k=49∨k=50∨k=51∨k=52∨k=53∨k=54∨k=55∨k=56∨k=57:=by omega
  rcases this with rfl|rfl|rfl|rfl|rfl|rfl|rfl|rfl|rfl|rfl<;>decide
theorem q8H{p:UInt8→Bool}:∀{l:List UInt8},l.dropWhile p=[]↔∀x,x∈l→p x=true
 | []=>by simp
 | a::l=>by
  rw[List.dropWhile_cons]
  by_cases h:p a=true
  ·rw[if_pos h,q8H];simp[h]
  ·rw[if_neg h];simp[h]
theorem qfX(s:List UInt8):(Lib.trimS s qzt=[])=q62 s:=by
 apply propext
 unfold Lib.trimS Lib.trimLeftS Lib.trimRightS
 constructor
 ·intro h
  have h1:∀c,c∈(s.reverse.dropWhile (qzt.contains ·)).reverse→qzt.contains c=true:=by
   intro c hc
   have:=q8H.1 h c hc
   simpa using this
  have h2:s.reverse.dropWhile (qzt.contains ·)=[]:=by
   cases hd:s.reverse.dropWhile (qzt.contains ·) with
   | nil=>rfl
   | cons c t=>
    exfalso
    have h3:=List.head_dropWhile_not (p:=(qzt.contains ·)) (l:=s.reverse) (by rw[hd];simp)
    simp only[hd,List.head_cons] at h3
    have:=h1 c (by rw[hd];simp)
    rw[this] at h3;cases h3
  intro c hc
  have:=q8H.1 h2 c (by simpa using hc)
  exact(qw1 c).1 (by simpa using this)
 ·intro h
  have h2:s.reverse.dropWhile (qzt.contains ·)=[]:=by
   rw[q8H]
   intro c hc
   exact(qw1 c).2 (h c (by simpa using hc))
  rw[h2];rfl
theorem qDB(s:List UInt8)(hl:s.length≤9223372036854775807):(q6V [.s s,.s [48,49,50,51,52,53,54,55,56,57]]).run=some (0,[.s (Lib.trimS s qzt)]):=by
 show (qyq [.s s,.s qzt]).run=_
 unfold qyq
 simp only
 rw[if_pos ⟨hl,by decide,by decide⟩];rfl
end Go.Eng

namespace Go.Eng
theorem qz3(n:Nat):pB n=((10^(9*n):Nat):Int):=by
 unfold pB
 rw[Nat.pow_mul]
 simp
theorem qxs:∀k:Nat,k≤9→qet [48,48,48,48,48,48,48,48,48] (k:Int) 9=List.replicate (9-k) 48
 | 0,_=>rfl
 | 1,_=>rfl
 | 2,_=>rfl
 | 3,_=>rfl
 | 4,_=>rfl
 | 5,_=>rfl
 | 6,_=>rfl
 | 7,_=>rfl
 | 8,_=>rfl
 | 9,_=>rfl
 | n+10,h=>by omega
theorem qBO{v:Nat}(h:v<1000000000):q62 (qz8 (tN v))∧(qz8 (tN v)).length=9∧val (qz8 (tN v))=v:=by
 have hl:(tN v).length≤9:=q5f 8 v (by omega)
 have e:qz8 (tN v)=List.replicate (9-(tN v).length) 48++tN v:=by
  unfold qz8 qbV
  rw[show qu (tN v)=((tN v).length:Int) from rfl,qxs _ hl]
 rw[e]
 refine⟨q8f.2 ⟨qkw _,wl v⟩,by simp;omega,by rw[qnc,q0N]⟩
theorem qpu{l:List Int}(hl:l.length=232)(hd:dgs l):∀i:Nat,i≤232→q62 (qjz (rI l) i)∧(qjz (rI l) i).length=9*i∧((val (qjz (rI l) i):Nat):Int)=mv (l.take i)
 | 0,_=>⟨qm5,rfl,by simp[qjz,qd8,mv]⟩
 | i+1,h=>by
  obtain⟨h1,h2,h3⟩:=qpu hl hd i (by omega)
  have hil:i<l.length:=by omega
  have hg:=hd _ (List.getElem_mem hil)
  have e:cI (rI l) (i:Int) 0=l[i]:=by rw[q4Y,jz hil]
  have e2:Lib.itoa l[i]=tN l[i].toNat:=by rw[qvo,qi9 (by omega)];congr 1;omega
  obtain⟨p1,p2,p3⟩:=qBO (v:=l[i].toNat) (by omega)
  unfold qjz
  rw[e,e2]
  refine⟨q8f.2 ⟨p1,h1⟩,by rw[List.length_append,p2,h2];omega,?_⟩
  rw[qrP,p3,h2,qlo hil,qz3]
  simp only[Int.natCast_add,Int.natCast_mul,h3]
  rw[Int.toNat_of_nonneg hg.1];omega
theorem qAr{n:Nat}{l:List Int}(h:WOK n l)(hn:nrm n l)(b:Bool):qzy b (n:Int) (rI l)=tI (sv b l):=by
 unfold qzy
 by_cases h0:n=0
 ·have h1:mv l=0:=by rw[←qj3 h hn];exact h0
  rw[if_pos (by omega)]
  unfold sv;rw[h1];cases b<;>rfl
 ·rw[if_neg (by omega)]
  obtain⟨m,rfl⟩:∃m,n=m+1:=⟨n-1,by omega⟩
  have hle:=h.le
  have hml:m<l.length:=by rw[h.len];omega
  have e1:(((m+1:Nat):Int)-1)=(m:Int):=by omega
  rw[e1,Int.toNat_natCast,q4Y,jz hml]
  have hg:=h.dig _ (List.getElem_mem hml)
  have e2:Lib.itoa l[m]=tN l[m].toNat:=by rw[qvo,qi9 (by omega)];congr 1;omega
  obtain⟨t1,t2,t3⟩:=qpu h.len h.dig m (by omega)
  have hnz:l[m]≠0:=by
   rcases hn with hn|hn
   ·omega
   ·rw[Nat.add_sub_cancel,jz hml] at hn;exact hn
  have hlo:=h.lo hn h0
  have hp:=qaL m
  simp only[Nat.add_sub_cancel] at hlo
  have hv:((val (tN l[m].toNat++qjz (rI l) m):Nat):Int)=mv l:=by
   rw[qrP,q0N,t2,qat l m (by omega),qb9 hml,vF h.dig h.z (Nat.le_refl _),qz3]
   simp only[Int.natCast_add,Int.natCast_mul,t3]
   rw[Int.toNat_of_nonneg hg.1]
   grind
  have hT:tN l[m].toNat++qjz (rI l) m=tN (mv l).toNat:=by
   have hd:q62 (tN l[m].toNat++qjz (rI l) m):=q8f.2 ⟨wl _,t1⟩
   have hne:tN l[m].toNat++qjz (rI l) m≠[]:=by simp[qmP]
   have hz:(tN l[m].toNat++qjz (rI l) m).getD 0 0≠48:=by
    have hv0:=q0N l[m].toNat
    have hd0:=wl l[m].toNat
    rcases qzX l[m].toNat with h1|h1
    ·obtain⟨c,e⟩:=List.length_eq_one_iff.1 h1
     rw[e] at hv0 ⊢
     simp only[List.cons_append,List.getD_cons_zero]
     intro hc;subst hc
     rw[quz] at hv0
     simp[dv] at hv0;omega
    ·obtain⟨c,t,e,_⟩:=qg1 hd0 (qmP _)
     rw[e] at h1 ⊢
     simpa using h1
   have:=qnv hd hne (.inr hz)
   rw[this];congr 1;omega
  rw[e2,List.append_assoc,hT]
  unfold sv
  cases b
  ·rw[if_neg (by simp),if_neg (by simp),qi9 (by omega)];simp;congr 1;omega
  ·rw[if_pos rfl,if_pos rfl,qaU (by omega)];simp;congr 1;omega
theorem qwI{n:Nat}{l:List Int}(h:WOK n l):qrs (n:Int) (rI l)=true:=by
 unfold qrs
 have:=h.le
 simp only[Bool.and_eq_true,decide_eq_true_eq,List.all_eq_true,List.mem_range]
 refine⟨⟨by omega,by omega⟩,fun i _=>?_⟩
 have:=h.get i
 rw[q4Y];exact this
theorem qw4{n:Nat}{l:List Int}(h:WOK n l)(hn:nrm n l)(b:Bool):(qM [.b b,.i (n:Int),.r (rI l)]).run=some (0,[.s (tI (sv b l)),.b b,.i (n:Int),.r (rI l)]):=by
 show (qyV [.b b,.i (n:Int),.r (rI l)]).run=_
 unfold qyV
 simp only
 rw[if_pos (qwI h),qAr h hn];rfl
end Go.Eng

