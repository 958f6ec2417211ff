/- Texts of the proof, merged: what the code computes, and plain laws. No statement stands here. -/
import Derived.OpenShut
import Derived.Deep.Slices
import Derived.SizedLaws
import Derived.Below
import Derived.Lib.LaidTab
import Derived.Test.YtngkcfeldallkaaGreatDoorS3
namespace Go.Eng
theorem qxN(x0:Int):uo [.i x0]=(.br (ile (-100000) x0) (.leaf (0,[(.b (ile x0 100000))])) (.leaf (0,[(.b false)]))):=by kernel_rfl
theorem qt9(x0:Int):jF [.i x0]=(.br (ile 1 x0) (.leaf (0,[(.b (ile x0 100000))])) (.leaf (0,[(.b false)]))):=by kernel_rfl
theorem qrG(x0:Int)(x1:Int)(x2:Int)(x3:Int)(x4:Int)(x5:Int)(x6:Bool):jm [.i x0,.i x1,.i x2,.i x3,.i x4,.i x5,.b x6]=(.br (okR (uo [(.i x0)])) (.br (not (gB (uo [(.i x0)]) 0)) (.leaf (0,[(.i 2)])) (.br (okR (uo [(.i x1)])) (.br (not (gB (uo [(.i x1)]) 0)) (.leaf (0,[(.i 2)])) (.br (okR (jF [(.i x2)])) (.br (not (gB (jF [(.i x2)]) 0)) (.leaf (0,[(.i 2)])) (.br (okR (jF [(.i x3)])) (.br (not (gB (jF [(.i x3)]) 0)) (.leaf (0,[(.i 2)])) (.br (ilt x3 x2) (.leaf (0,[(.i 9)])) (.br (ilt x4 0) (.leaf (0,[(.i 2)])) (.br (ilt 100000 x4) (.leaf (0,[(.i 2)])) (.br (not x6) (.br (ile x2 x4) (.leaf (0,[(.i 2)])) (.br (ilt x5 0) (.leaf (0,[(.i 1)])) (.br (ile 3 x5) (.leaf (0,[(.i 1)])) (.leaf (0,[(.i 0)]))))) (.br (ilt x5 0) (.leaf (0,[(.i 1)])) (.br (ile 3 x5) (.leaf (0,[(.i 1)])) (.leaf (0,[(.i 0)]))))))))) .fail)) .fail)) .fail)) .fail):=by kernel_rfl
theorem qbW(y0:Int)(y1:Int)(y2:Int)(y3:Int)(y4:Int)(y5:Int)(y6:Int)(y7:Int)(y8:Bool)(y9:Int)(y10:Int)(y11:Int)(y12:Int)(y13:Int)(y14:Int)(y15:Bool)(y16:R):ug [.i y0,.i y1,.i y2,.i y3,.i y4,.i y5,.i y6,.i y7,.b y8,.i y9,.i y10,.i y11,.i y12,.i y13,.i y14,.b y15,.r y16]=(.br (ilt y1 y0) (.br (inb y1 (qh y16)) (let r0:TR:=(jm [(.i (cI y16 y1 0)),(.i (cI y16 y1 1)),(.i (cI y16 y1 2)),(.i (cI y16 y1 3)),(.i (cI y16 y1 4)),(.i (cI y16 y1 5)),(.b (cB y16 y1 6))])
 .br (okR r0) (.br (ine (gI r0 0) 0) (.leaf (2,[(.i (gI r0 0))])) (.leaf (0,[(.i y0),(.i (ql .i64 y1 1)),(.i y2),(.i y3),(.i y4),(.i y5),(.i y6),(.i y7),(.b y8),(.i y9),(.i y10),(.i y11),(.i y12),(.i y13),(.i y14),(.b y15),(.r y16)]))) .fail) .fail) (.leaf (1,[(.i y2),(.i y3),(.i y4),(.i y5),(.i y6),(.i y7),(.b y8),(.i y9),(.i y10),(.i y11),(.i y12),(.i y13),(.i y14),(.b y15)]))):=by kernel_rfl
theorem qnX(x0:Int)(x1:Int)(x2:Int)(x3:Int)(x4:Int)(x5:Int)(x6:Bool)(x7:Int)(x8:Int)(x9:Int)(x10:Int)(x11:Int)(x12:Int)(x13:Bool):q0C [.i x0,.i x1,.i x2,.i x3,.i x4,.i x5,.b x6,.i x7,.i x8,.i x9,.i x10,.i x11,.i x12,.b x13]=(let r0:TR:=(qg ug [(.i (qh [[(.i x0),(.i x1),(.i x2),(.i x3),(.i x4),(.i x5),(.b x6)],[(.i x7),(.i x8),(.i x9),(.i x10),(.i x11),(.i x12),(.b x13)]])),(.i 0),(.i x0),(.i x1),(.i x2),(.i x3),(.i x4),(.i x5),(.b x6),(.i x7),(.i x8),(.i x9),(.i x10),(.i x11),(.i x12),(.b x13),(.r [[(.i x0),(.i x1),(.i x2),(.i x3),(.i x4),(.i x5),(.b x6)],[(.i x7),(.i x8),(.i x9),(.i x10),(.i x11),(.i x12),(.b x13)]])])
 .br (okR r0) (.br (jIs r0 0) (.br (ine (gI r0 5) 1) (.leaf (0,[(.i 14)])) (.br (ine (gI r0 12) 1) (.leaf (0,[(.i 14)])) (.br (not (qwR (ieq (gI r0 0) (gI r0 7)) (qwR (ieq (gI r0 1) (gI r0 8)) true))) (.leaf (0,[(.i 16)])) (.br (beq (gB r0 6) (gB r0 13)) (.leaf (0,[(.i 16)])) (.leaf (0,[(.i 0)])))))) (.leaf (0,[(.i (gI r0 0))]))) .fail):=by kernel_rfl
theorem q90(y0:Int)(y1:Int)(y2:R)(y3:R):ur [.i y0,.i y1,.r y2,.r y3]=(.br (ilt y1 y0) (.br (inb y1 (qh y2)) (.br (inb y1 (qh y3)) (let r0:TR:=(q0C [(.i (cI y2 y1 0)),(.i (cI y2 y1 1)),(.i (cI y2 y1 2)),(.i (cI y2 y1 3)),(.i (cI y2 y1 4)),(.i (cI y2 y1 5)),(.b (cB y2 y1 6)),(.i (cI y3 y1 0)),(.i (cI y3 y1 1)),(.i (cI y3 y1 2)),(.i (cI y3 y1 3)),(.i (cI y3 y1 4)),(.i (cI y3 y1 5)),(.b (cB y3 y1 6))])
 .br (okR r0) (.br (ine (gI r0 0) 0) (.leaf (2,[(.i (gI r0 0))])) (.leaf (0,[(.i y0),(.i (ql .i64 y1 1)),(.r y2),(.r y3)]))) .fail) .fail) .fail) (.leaf (1,[]))):=by kernel_rfl
theorem qna(x0:R)(x1:R):wX [.r x0,.r x1]=(.br (ieq (qh x0) 0) (.leaf (0,[(.i 13)])) (.br (ilt 16 (qh x0)) (.leaf (0,[(.i 5)])) (.br (ine (qh x0) (qh x1)) (.leaf (0,[(.i 8)])) (let r0:TR:=(qg ur [(.i (qh x0)),(.i 0),(.r x0),(.r x1)])
 .br (okR r0) (.br (jIs r0 0) (.leaf (0,[(.i 0)])) (.leaf (0,[(.i (gI r0 0))]))) .fail)))):=by kernel_rfl
theorem qxK(x0:Int)(x1:Int)(x2:Int)(x3:Int)(x4:Int)(x5:Int)(x6:Bool):qdo [.i x0,.i x1,.i x2,.i x3,.i x4,.i x5,.b x6]=(.br x6 (.br (ieq x5 2) (.leaf (0,[(.i x0),(.i x1),(.i x2),(.i x3),(.i x4),(.i x5),(.b x6),(.i (cI [[(.i (-1)),(.i (-1)),(.i 1),(.i 1),(.i 1),(.i (-1))]] 0 5))])) (.br (ieq x5 1) (.leaf (0,[(.i x0),(.i x1),(.i x2),(.i x3),(.i x4),(.i x5),(.b x6),(.i (cI [[(.i (-1)),(.i (-1)),(.i 1),(.i 1),(.i 1),(.i (-1))]] 0 4))])) (.br (ieq x5 0) (.leaf (0,[(.i x0),(.i x1),(.i x2),(.i x3),(.i x4),(.i x5),(.b x6),(.i (cI [[(.i (-1)),(.i (-1)),(.i 1),(.i 1),(.i 1),(.i (-1))]] 0 3))])) .fail))) (.br (ieq x5 2) (.leaf (0,[(.i x0),(.i x1),(.i x2),(.i x3),(.i x4),(.i x5),(.b x6),(.i (cI [[(.i (-1)),(.i (-1)),(.i 1),(.i 1),(.i 1),(.i (-1))]] 0 2))])) (.br (ieq x5 1) (.leaf (0,[(.i x0),(.i x1),(.i x2),(.i x3),(.i x4),(.i x5),(.b x6),(.i (cI [[(.i (-1)),(.i (-1)),(.i 1),(.i 1),(.i 1),(.i (-1))]] 0 1))])) (.br (ieq x5 0) (.leaf (0,[(.i x0),(.i x1),(.i x2),(.i x3),(.i x4),(.i x5),(.b x6),(.i (cI [[(.i (-1)),(.i (-1)),(.i 1),(.i 1),(.i 1),(.i (-1))]] 0 0))])) .fail)))):=by kernel_rfl
theorem qgc(x0:Int)(x1:Int)(x2:Int)(x3:Int)(x4:Int)(x5:Int)(x6:Bool)(x7:Int)(x8:Int):jM [.i x0,.i x1,.i x2,.i x3,.i x4,.i x5,.b x6,.i x7,.i x8]=(.br (ilt x8 0) (.leaf (0,[(.i x2)])) (.leaf (0,[(.i x3)]))):=by kernel_rfl
theorem qo9(x0:Int)(x1:Int)(x2:Int)(x3:Int)(x4:Int)(x5:Int)(x6:Bool):jO [.i x0,.i x1,.i x2,.i x3,.i x4,.i x5,.b x6]=(let r0:TR:=(jm [(.i x0),(.i x1),(.i x2),(.i x3),(.i x4),(.i x5),(.b x6)])
 .br (okR r0) (.br (ine (gI r0 0) 0) (.leaf (0,[(.i 0),(.i (gI r0 0))])) (let r1:TR:=(qdo [(.i x0),(.i x1),(.i x2),(.i x3),(.i x4),(.i x5),(.b x6)])
 .br (okR r1) (let r2:TR:=(jM [(.i (gI r1 0)),(.i (gI r1 1)),(.i (gI r1 2)),(.i (gI r1 3)),(.i (gI r1 4)),(.i (gI r1 5)),(.b (gB r1 6)),(.i (gI r1 7)),(.i (gI r1 7))])
 .br (okR r2) (.leaf (0,[(.i (ql .i64 (gI r2 0) (yM .i64 (gI r1 7) (gI r1 4)))),(.i 0)])) .fail) .fail)) .fail):=by kernel_rfl
theorem q7V(y0:R)(y1:Int)(y2:Int)(y3:R)(y4:R)(y5:R):vX [.r y0,.i y1,.i y2,.r y3,.r y4,.r y5]=(.br (ilt y2 y1) (.br (inb y2 (qh y0)) (let r0:TR:=(jO [(.i (cI y0 y2 0)),(.i (cI y0 y2 1)),(.i (cI y0 y2 2)),(.i (cI y0 y2 3)),(.i (cI y0 y2 4)),(.i (cI y0 y2 5)),(.b (cB y0 y2 6))])
 .br (okR r0) (.br (inb y2 (qh y4)) (let r1:TR:=(jO [(.i (cI y4 y2 0)),(.i (cI y4 y2 1)),(.i (cI y4 y2 2)),(.i (cI y4 y2 3)),(.i (cI y4 y2 4)),(.i (cI y4 y2 5)),(.b (cB y4 y2 6))])
 .br (okR r1) (.br (ine (ql .i64 (gI r0 1) (gI r1 1)) 0) (.leaf (2,[(.i (qgb (gI r0 1) (gI r1 1)))])) (.br (cB y0 y2 6) (.br (ile ((qh y5)+(qh [[(.i (qv .i64 (gI r1 0) (gI r0 0)))]])) 17592186044416) (.leaf (0,[(.r y0),(.i y1),(.i (ql .i64 y2 1)),(.r y3),(.r y4),(.r (q6B y5 [[(.i (qv .i64 (gI r1 0) (gI r0 0)))]]))])) .fail) (.br (ile ((qh y5)+(qh [[(.i (qv .i64 (gI r0 0) (gI r1 0)))]])) 17592186044416) (.leaf (0,[(.r y0),(.i y1),(.i (ql .i64 y2 1)),(.r y3),(.r y4),(.r (q6B y5 [[(.i (qv .i64 (gI r0 0) (gI r1 0)))]]))])) .fail))) .fail) .fail) .fail) .fail) (.leaf (1,[(.r y5)]))):=by kernel_rfl
theorem qjQ(x0:R)(x1:R):vP [.r x0,.r x1]=(let r0:TR:=(wX [(.r x0),(.r x1)])
 .br (okR r0) (.br (ine (gI r0 0) 0) (.leaf (0,[(.r []),(.i (gI r0 0))])) (let r1:TR:=(qg vX [(.r x0),(.i (qh x0)),(.i 0),(.r x0),(.r x1),(.r [])])
 .br (okR r1) (.br (jIs r1 0) (.leaf (0,[(.r (gR r1 0)),(.i 0)])) (.leaf (0,[(.r []),(.i (gI r1 0))]))) .fail)) .fail):=by kernel_rfl
theorem qia(x0:Int)(x1:Int):we [.i x0,.i x1]=(.leaf (0,[(.b (ilt x1 0))])):=by kernel_rfl
theorem vC(y0:R)(y1:Int)(y2:Int)(y3:R):qy [.r y0,.i y1,.i y2,.r y3]=(.br (ilt y2 y1) (.br (inb y2 (qh y0)) (let r0:TR:=(we [(.i y2),(.i (cI y0 y2 0))])
 .br (okR r0) (.br (gB r0 0) (.br (ile ((qh y3)+(qh [[(.i y2)]])) 17592186044416) (.leaf (0,[(.r y0),(.i y1),(.i (ql .i64 y2 1)),(.r (q6B y3 [[(.i y2)]]))])) .fail) (.leaf (0,[(.r y0),(.i y1),(.i (ql .i64 y2 1)),(.r y3)]))) .fail) .fail) (.leaf (1,[(.r y3)]))):=by kernel_rfl
theorem q1K(x0:R):qk [.r x0]=(let r0:TR:=(qg qy [(.r x0),(.i (qh x0)),(.i 0),(.r [])])
 .br (okR r0) (.leaf (0,[(.r (gR r0 0))])) .fail):=by kernel_rfl
theorem qoo(x0:R)(x1:R):q2C [.r x0,.r x1]=(let r0:TR:=(vP [(.r x0),(.r x1)])
 .br (okR r0) (.br (ieq (gI r0 1) 0) (let r1:TR:=(qk [(.r (gR r0 0))])
 .br (okR r1) (.leaf (0,[(.b (ieq (qh (gR r1 0)) 0)),(.i (gI r0 1))])) .fail) (.leaf (0,[(.b false),(.i (gI r0 1))]))) .fail):=by kernel_rfl
theorem q44(y0:R)(y1:R)(y2:Int)(y3:Int):vd [.r y0,.r y1,.i y2,.i y3]=(.br (ilt y3 y2) (.br (inb y3 (qh y0)) (.br (inb y3 (qh y1)) (.br (ine (cI y0 y3 0) (cI y1 y3 0)) (.leaf (2,[(.b false)])) (.leaf (0,[(.r y0),(.r y1),(.i y2),(.i (ql .i64 y3 1))]))) .fail) .fail) (.leaf (1,[]))):=by kernel_rfl
theorem qf7(x0:R)(x1:R):qZ [.r x0,.r x1]=(.br (ine (qh x0) (qh x1)) (.leaf (0,[(.b false)])) (let r0:TR:=(qg vd [(.r x0),(.r x1),(.i (qh x0)),(.i 0)])
 .br (okR r0) (.br (jIs r0 0) (.leaf (0,[(.b true)])) (.leaf (0,[(.b (gB r0 0))]))) .fail)):=by kernel_rfl
theorem qw5(x0:Int)(x1:Int)(x2:Int)(x3:Int)(x4:Int)(x5:Int)(x6:Bool)(x7:Int)(x8:Int)(x9:Int):qfn [.i x0,.i x1,.i x2,.i x3,.i x4,.i x5,.b x6,.i x7,.i x8,.i x9]=(.leaf (0,[(.i (qv .i64 x7 x0)),(.i (qv .i64 x8 x1))])):=by kernel_rfl
theorem qsU(x0:Int)(x1:Int)(x2:Int):q7N [.i x0,.i x1,.i x2]=(.br (okR (uo [(.i x0)])) (.br (not (gB (uo [(.i x0)]) 0)) (.leaf (0,[(.i 2)])) (.br (okR (uo [(.i x1)])) (.br (not (gB (uo [(.i x1)]) 0)) (.leaf (0,[(.i 2)])) (.br (okR (jF [(.i x2)])) (.br (not (gB (jF [(.i x2)]) 0)) (.leaf (0,[(.i 2)])) (.leaf (0,[(.i 0)]))) .fail)) .fail)) .fail):=by kernel_rfl
theorem qsY(x0:Int)(x1:Int)(x2:Int)(x3:Int)(x4:Int)(x5:Int)(x6:Bool)(x7:Int)(x8:Int)(x9:Int):q85 [.i x0,.i x1,.i x2,.i x3,.i x4,.i x5,.b x6,.i x7,.i x8,.i x9]=(let r0:TR:=(jm [(.i x0),(.i x1),(.i x2),(.i x3),(.i x4),(.i x5),(.b x6)])
 .br (okR r0) (.br (ine (gI r0 0) 0) (.leaf (0,[(.i (gI r0 0))])) (let r1:TR:=(q7N [(.i x7),(.i x8),(.i x9)])
 .br (okR r1) (.leaf (0,[(.i (gI r1 0))])) .fail)) .fail):=by kernel_rfl
theorem qmc(x0:Int)(x1:Int)(x2:Int)(x3:Int)(x4:Int)(x5:Int)(x6:Bool)(x7:Int)(x8:Int)(x9:Int):j4 [.i x0,.i x1,.i x2,.i x3,.i x4,.i x5,.b x6,.i x7,.i x8,.i x9]=(let r0:TR:=(q85 [(.i x0),(.i x1),(.i x2),(.i x3),(.i x4),(.i x5),(.b x6),(.i x7),(.i x8),(.i x9)])
 .br (okR r0) (.br (ine (gI r0 0) 0) (.leaf (0,[(.i 0),(.i (gI r0 0))])) (let r1:TR:=(qfn [(.i x0),(.i x1),(.i x2),(.i x3),(.i x4),(.i x5),(.b x6),(.i x7),(.i x8),(.i x9)])
 .br (okR r1) (.leaf (0,[(.i (ql .i64 (yM .i64 (gI r1 0) (gI r1 0)) (yM .i64 (gI r1 1) (gI r1 1)))),(.i 0)])) .fail)) .fail):=by kernel_rfl
theorem qkw(x0:Int)(x1:Int)(x2:Int)(x3:Int)(x4:Int)(x5:Int)(x6:Bool)(x7:Int)(x8:Int)(x9:Int):jf [.i x0,.i x1,.i x2,.i x3,.i x4,.i x5,.b x6,.i x7,.i x8,.i x9]=(.br (ile x2 x9) (.leaf (0,[(.b (ile x9 x3))])) (.leaf (0,[(.b false)]))):=by kernel_rfl
theorem q7K(y0:Int)(y1:Int)(y2:R)(y3:R)(y4:R)(y5:R):yB [.i y0,.i y1,.r y2,.r y3,.r y4,.r y5]=(.br (ilt y1 y0) (.br (inb y1 (qh y2)) (.br (inb y1 (qh y4)) (let r0:TR:=(j4 [(.i (cI y2 y1 0)),(.i (cI y2 y1 1)),(.i (cI y2 y1 2)),(.i (cI y2 y1 3)),(.i (cI y2 y1 4)),(.i (cI y2 y1 5)),(.b (cB y2 y1 6)),(.i (cI y4 y1 0)),(.i (cI y4 y1 1)),(.i (cI y4 y1 2))])
 .br (okR r0) (.br (ine (gI r0 1) 0) (.leaf (2,[(.i (gI r0 1))])) (.br (inb y1 (qh y3)) (.br (inb y1 (qh y5)) (let r1:TR:=(j4 [(.i (cI y3 y1 0)),(.i (cI y3 y1 1)),(.i (cI y3 y1 2)),(.i (cI y3 y1 3)),(.i (cI y3 y1 4)),(.i (cI y3 y1 5)),(.b (cB y3 y1 6)),(.i (cI y5 y1 0)),(.i (cI y5 y1 1)),(.i (cI y5 y1 2))])
 .br (okR r1) (.br (ine (gI r1 1) 0) (.leaf (2,[(.i (gI r1 1))])) (.br (inb y1 (qh y2)) (.br (inb y1 (qh y4)) (let r2:TR:=(jf [(.i (cI y2 y1 0)),(.i (cI y2 y1 1)),(.i (cI y2 y1 2)),(.i (cI y2 y1 3)),(.i (cI y2 y1 4)),(.i (cI y2 y1 5)),(.b (cB y2 y1 6)),(.i (cI y4 y1 0)),(.i (cI y4 y1 1)),(.i (cI y4 y1 2))])
 .br (okR r2) (.br (not (gB r2 0)) (.leaf (2,[(.i 14)])) (.br (inb y1 (qh y3)) (.br (inb y1 (qh y5)) (let r3:TR:=(jf [(.i (cI y3 y1 0)),(.i (cI y3 y1 1)),(.i (cI y3 y1 2)),(.i (cI y3 y1 3)),(.i (cI y3 y1 4)),(.i (cI y3 y1 5)),(.b (cB y3 y1 6)),(.i (cI y5 y1 0)),(.i (cI y5 y1 1)),(.i (cI y5 y1 2))])
 .br (okR r3) (.br (not (gB r3 0)) (.leaf (2,[(.i 14)])) (.leaf (0,[(.i y0),(.i (ql .i64 y1 1)),(.r y2),(.r y3),(.r y4),(.r y5)]))) .fail) .fail) .fail)) .fail) .fail) .fail)) .fail) .fail) .fail)) .fail) .fail) .fail) (.leaf (1,[]))):=by kernel_rfl
theorem qlm(x0:R)(x1:R)(x2:R)(x3:R):wi [.r x0,.r x1,.r x2,.r x3]=(let r0:TR:=(wX [(.r x0),(.r x1)])
 .br (okR r0) (.br (ine (gI r0 0) 0) (.leaf (0,[(.i (gI r0 0))])) (.br (ine (qh x2) (qh x0)) (.leaf (0,[(.i 8)])) (.br (ine (qh x3) (qh x1)) (.leaf (0,[(.i 8)])) (let r1:TR:=(qg yB [(.i (qh x0)),(.i 0),(.r x0),(.r x1),(.r x2),(.r x3)])
 .br (okR r1) (.br (jIs r1 0) (.leaf (0,[(.i 0)])) (.leaf (0,[(.i (gI r1 0))]))) .fail)))) .fail):=by kernel_rfl
theorem qaz(y0:R)(y1:Int)(y2:Int)(y3:R)(y4:R)(y5:R):yb [.r y0,.i y1,.i y2,.r y3,.r y4,.r y5]=(.br (ilt y2 y1) (.br (inb y2 (qh y0)) (.br (inb y2 (qh y3)) (.br (inb y2 (qh y4)) (.br (cB y0 y2 6) (.br (ile ((qh y5)+(qh [[(.i (qv .i64 0 (qv .i64 (cI y3 y2 2) (cI y4 y2 2))))]])) 17592186044416) (.leaf (0,[(.r y0),(.i y1),(.i (ql .i64 y2 1)),(.r y3),(.r y4),(.r (q6B y5 [[(.i (qv .i64 0 (qv .i64 (cI y3 y2 2) (cI y4 y2 2))))]]))])) .fail) (.br (ile ((qh y5)+(qh [[(.i (qv .i64 (cI y3 y2 2) (cI y4 y2 2)))]])) 17592186044416) (.leaf (0,[(.r y0),(.i y1),(.i (ql .i64 y2 1)),(.r y3),(.r y4),(.r (q6B y5 [[(.i (qv .i64 (cI y3 y2 2) (cI y4 y2 2)))]]))])) .fail)) .fail) .fail) .fail) (.leaf (1,[(.r y5)]))):=by kernel_rfl
theorem qmG(x0:R)(x1:R)(x2:R)(x3:R):zq [.r x0,.r x1,.r x2,.r x3]=(let r0:TR:=(qg yb [(.r x0),(.i (qh x0)),(.i 0),(.r x2),(.r x3),(.r [])])
 .br (okR r0) (.leaf (0,[(.r (gR r0 0))])) .fail):=by kernel_rfl
theorem qgo(x0:Int)(x1:Int)(x2:R)(x3:R):wx [.i x0,.i x1,.r x2,.r x3]=(.br (inb x0 (qh x2)) (.br (inb x0 (qh x3)) (.br (inb x0 (qh x2)) (.br (inb x0 (qh x3)) (.br (ilt x1 0) (.leaf (0,[(.b true),(.r x2),(.r x3)])) (.leaf (0,[(.b (ilt (yM .i64 x1 x1) (yM .i64 4 (ql .i64 (yM .i64 (qv .i64 (cI x2 x0 0) (cI x3 x0 0)) (qv .i64 (cI x2 x0 0) (cI x3 x0 0))) (yM .i64 (qv .i64 (cI x2 x0 1) (cI x3 x0 1)) (qv .i64 (cI x2 x0 1) (cI x3 x0 1))))))),(.r x2),(.r x3)]))) .fail) .fail) .fail) .fail):=by kernel_rfl
theorem va(y0:R)(y1:Int)(y2:Int)(y3:R)(y4:R)(y5:R):qw [.r y0,.i y1,.i y2,.r y3,.r y4,.r y5]=(.br (ilt y2 y1) (.br (inb y2 (qh y0)) (let r0:TR:=(wx [(.i y2),(.i (cI y0 y2 0)),(.r y3),(.r y4)])
 .br (okR r0) (.br (gB r0 0) (.br (ile ((qh y5)+(qh [[(.i y2)]])) 17592186044416) (.leaf (0,[(.r y0),(.i y1),(.i (ql .i64 y2 1)),(.r (gR r0 1)),(.r (gR r0 2)),(.r (q6B y5 [[(.i y2)]]))])) .fail) (.leaf (0,[(.r y0),(.i y1),(.i (ql .i64 y2 1)),(.r (gR r0 1)),(.r (gR r0 2)),(.r y5)]))) .fail) .fail) (.leaf (1,[(.r y3),(.r y4),(.r y5)]))):=by kernel_rfl
theorem q13(x0:R)(x1:R)(x2:R):qH [.r x0,.r x1,.r x2]=(let r0:TR:=(qg qw [(.r x0),(.i (qh x0)),(.i 0),(.r x1),(.r x2),(.r [])])
 .br (okR r0) (.leaf (0,[(.r (gR r0 2)),(.r (gR r0 0)),(.r (gR r0 1))])) .fail):=by kernel_rfl
theorem qk2(x0:R)(x1:R)(x2:R)(x3:R):ye [.r x0,.r x1,.r x2,.r x3]=(let r0:TR:=(wi [(.r x0),(.r x1),(.r x2),(.r x3)])
 .br (okR r0) (.br (ine (gI r0 0) 0) (.leaf (0,[(.r []),(.i (gI r0 0))])) (let r1:TR:=(zq [(.r x0),(.r x1),(.r x2),(.r x3)])
 .br (okR r1) (let r2:TR:=(qH [(.r (gR r1 0)),(.r x2),(.r x3)])
 .br (okR r2) (.leaf (0,[(.r (gR r2 0)),(.i 0)])) .fail) .fail)) .fail):=by kernel_rfl
theorem q60(x0:List UInt8)(x1:List UInt8):qI [.s x0,.s x1]=(.br (ile (qu x1) (qu x0)) (.br (q6A (qu x1) (qu x0)) (.br (q6A 0 (qu x1)) (.leaf (0,[(.b (seq (qcK x0 0 (qu x1)) x1))])) .fail) .fail) (.leaf (0,[(.b false)]))):=by kernel_rfl
theorem q5p(x0:List UInt8)(x1:List UInt8):zi [.s x0,.s x1]=(let r0:TR:=(qI [(.s x0),(.s x1)])
 .br (okR r0) (.br (gB r0 0) (.br (q6A (qu x0) (qu x0)) (.br (q6A (qu x1) (qu x0)) (.leaf (0,[(.s (qcK x0 (qu x1) (qu x0)))])) .fail) .fail) (.leaf (0,[(.s x0)]))) .fail):=by kernel_rfl
theorem qhC(x0:List UInt8)(x1:List UInt8):qR [.s x0,.s x1]=(let r0:TR:=(zi [(.s x0),(.s x1)])
 .br (okR r0) (.leaf (0,[(.s (gS r0 0))])) .fail):=by kernel_rfl
theorem qrk(x0:List UInt8):qO [.s x0]=(let r0:TR:=(qR [(.s x0),(.s [45])])
 .br (okR r0) (.br (seq (gS r0 0) []) (.leaf (0,[(.i 3)])) (let r1:TR:=(q7x [(.s (gS r0 0)),(.s [48,49,50,51,52,53,54,55,56,57])])
 .br (okR r1) (.br (not (seq (gS r1 0) [])) (.leaf (0,[(.i 3)])) (.br (inb 0 (qu (gS r0 0))) (.br (ieq (sat (gS r0 0) 0) 48) (.br (not (seq x0 [48])) (.leaf (0,[(.i 3)])) (.br (ilt 1024 (qu (gS r0 0))) (.leaf (0,[(.i 11)])) (.leaf (0,[(.i 0)])))) (.br (ilt 1024 (qu (gS r0 0))) (.leaf (0,[(.i 11)])) (.leaf (0,[(.i 0)])))) .fail)) .fail)) .fail):=by kernel_rfl
theorem qas(x0:List UInt8)(x1:List UInt8):ww [.s x0,.s x1]=(let r0:TR:=(vB [(.s x0),(.s x1)])
 .br (okR r0) (.br (ile 0 (gI r0 0)) (.br (q6A (gI r0 0) (qu x0)) (.br (q6A 0 (gI r0 0)) (.br (q6A (qu x0) (qu x0)) (.br (q6A (ql .i64 (gI r0 0) (qu x1)) (qu x0)) (.leaf (0,[(.s (qcK x0 0 (gI r0 0))),(.s (qcK x0 (ql .i64 (gI r0 0) (qu x1)) (qu x0))),(.b true)])) .fail) .fail) .fail) .fail) (.leaf (0,[(.s x0),(.s []),(.b false)]))) .fail):=by kernel_rfl
theorem qrg(x0:List UInt8)(x1:List UInt8):q6q [.s x0,.s x1]=(let r0:TR:=(ww [(.s x0),(.s x1)])
 .br (okR r0) (.leaf (0,[(.s (gS r0 0)),(.s (gS r0 1)),(.b (gB r0 2))])) .fail):=by kernel_rfl
theorem qwe(x0:List UInt8):qP [.s x0]=(let r0:TR:=(q6q [(.s x0),(.s [47])])
 .br (okR r0) (.br (not (gB r0 2)) (.leaf (0,[(.s (gS r0 0)),(.s [49]),(.b (gB r0 2))])) (.leaf (0,[(.s (gS r0 0)),(.s (gS r0 1)),(.b (gB r0 2))]))) .fail):=by kernel_rfl
theorem qiE(y0:R)(y1:Int)(y2:Int):q6v [.r y0,.i y1,.i y2]=(.br (ilt y2 y1) (.br (inb y2 (qh y0)) (let r0:TR:=(qO [(.s (cS y0 y2 0))])
 .br (okR r0) (.br (ine (gI r0 0) 0) (.leaf (2,[(.i (gI r0 0))])) (.leaf (0,[(.r y0),(.i y1),(.i (ql .i64 y2 1))]))) .fail) .fail) (.leaf (1,[]))):=by kernel_rfl
theorem qvt(x0:R):zS [.r x0]=(let r0:TR:=(qg q6v [(.r x0),(.i (qh x0)),(.i 0)])
 .br (okR r0) (.br (jIs r0 0) (.leaf (0,[(.i 0)])) (.leaf (0,[(.i (gI r0 0))]))) .fail):=by kernel_rfl
theorem qtJ(x0:List UInt8):ub [.s x0]=(.br (seq x0 [48]) (.leaf (0,[(.i 0)])) (.br (inb 0 (qu x0)) (.br (ieq (sat x0 0) 45) (.leaf (0,[(.i (-1))])) (.leaf (0,[(.i 1)]))) .fail)):=by kernel_rfl
theorem qr6(x0:List UInt8)(x1:List UInt8):q5v [.s x0,.s x1]=(.br (ine (qu x0) (qu x1)) (.br (ilt (qu x0) (qu x1)) (.leaf (0,[(.i (-1))])) (.leaf (0,[(.i 1)]))) (let r0:TR:=(q39 [(.s x0),(.s x1)])
 .br (okR r0) (.leaf (0,[(.i (gI r0 0))])) .fail)):=by kernel_rfl
theorem qom(x0:List UInt8)(x1:List UInt8):q2H [.s x0,.s x1]=(let r0:TR:=(zS [(.r [[(.s x0)],[(.s x1)]])])
 .br (okR r0) (.br (ine (gI r0 0) 0) (.leaf (0,[(.i 0),(.i (gI r0 0))])) (let r1:TR:=(ub [(.s x0)])
 .br (okR r1) (let r2:TR:=(ub [(.s x1)])
 .br (okR r2) (.br (ilt (gI r1 0) (gI r2 0)) (.leaf (0,[(.i (-1)),(.i 0)])) (.br (okR r2) (.br (ilt (gI r2 0) (gI r1 0)) (.leaf (0,[(.i 1),(.i 0)])) (let r3:TR:=(qR [(.s x0),(.s [45])])
 .br (okR r3) (let r4:TR:=(qR [(.s x1),(.s [45])])
 .br (okR r4) (let r5:TR:=(q5v [(.s (gS r3 0)),(.s (gS r4 0))])
 .br (okR r5) (.leaf (0,[(.i (yM .i64 (gI r1 0) (gI r5 0))),(.i 0)])) .fail) .fail) .fail)) .fail)) .fail) .fail)) .fail):=by kernel_rfl
theorem qy5(x0:Int):zt [.i x0]=(.br (okR (q4c [(.i x0)])) (.leaf (0,[(.s (gS (q4c [(.i x0)]) 0))])) .fail):=by kernel_rfl
theorem qfe(y0:Bool)(y1:Int)(y2:R):jb [.b y0,.i y1,.r y2]=(.br (ilt 0 y1) (.br (inb (qv .i64 y1 1) 232) (.br (inb (qv .i64 y1 1) 232) (.br (ieq (cI y2 (qv .i64 y1 1) 0) 0) (.leaf (0,[(.b y0),(.i (qv .i64 y1 1)),(.r y2)])) (.leaf (1,[(.b y0),(.i y1),(.r y2)]))) .fail) .fail) (.leaf (1,[(.b y0),(.i y1),(.r y2)]))):=by kernel_rfl
theorem qhH(x0:Bool)(x1:Int)(x2:R):qC [.b x0,.i x1,.r x2]=(let r0:TR:=(qg jb [(.b x0),(.i x1),(.r x2)])
 .br (okR r0) (.leaf (0,[(.b (gB r0 0)),(.i (gI r0 1)),(.r (gR r0 2))])) .fail):=by kernel_rfl
theorem qq6(y0:List UInt8)(y1:Bool)(y2:Int)(y3:R):q4l [.s y0,.b y1,.i y2,.r y3]=(.br (ilt 0 (qu y0)) (.br (q6A (qu y0) (qu y0)) (.br (q6A (qgb 0 (qv .i64 (qu y0) 9)) (qu y0)) (let r0:TR:=(vD [(.s (qcK y0 (qgb 0 (qv .i64 (qu y0) 9)) (qu y0)))])
 .br (okR r0) (.br (inb y2 232) (.br (inb y2 232) (.br (q6A (qgb 0 (qv .i64 (qu y0) 9)) (qu y0)) (.br (q6A 0 (qgb 0 (qv .i64 (qu y0) 9))) (.leaf (0,[(.s (qcK y0 0 (qgb 0 (qv .i64 (qu y0) 9)))),(.b y1),(.i (ql .i64 y2 1)),(.r (qec y3 y2 0 [(.i (gI r0 0))]))])) .fail) .fail) .fail) .fail) .fail) .fail) .fail) (.leaf (1,[(.b y1),(.i y2),(.r y3)]))):=by kernel_rfl
theorem quk(x0:List UInt8):zz [.s x0]=(.br (inb 0 (qu x0)) (let r0:TR:=(qR [(.s x0),(.s [45])])
 .br (okR r0) (let r1:TR:=(qg q4l [(.s (gS r0 0)),(.b (ieq (sat x0 0) 45)),(.i 0),(.r (q3R 232 [(.i 0)]))])
 .br (okR r1) (let r2:TR:=(qC [(.b (gB r1 0)),(.i (gI r1 1)),(.r (gR r1 2))])
 .br (okR r2) (.leaf (0,[(.b (gB r2 0)),(.i (gI r2 1)),(.r (gR r2 2))])) .fail) .fail) .fail) .fail):=by kernel_rfl
theorem q89(y0:Int)(y1:Int)(y2:Int)(y3:Int)(y4:Bool)(y5:Int)(y6:R)(y7:Bool)(y8:Int)(y9:R):vU [.i y0,.i y1,.i y2,.i y3,.b y4,.i y5,.r y6,.b y7,.i y8,.r y9]=(.br (ilt y3 y8) (.br (inb (ql .i64 y3 y1) 232) (.br (inb (ql .i64 y3 y1) 232) (.br (ilt y3 y8) (.br (inb y3 232) (.br (inb y3 232) (.br (ilt (qv .i64 (ql .i64 (ql .i64 (cI y6 (ql .i64 y3 y1) 0) y2) (yM .i64 y0 (cI y9 y3 0))) (yM .i64 (yY .i64 (ql .i64 (ql .i64 (cI y6 (ql .i64 y3 y1) 0) y2) (yM .i64 y0 (cI y9 y3 0))) 1000000000) 1000000000)) 0) (.br (inb (ql .i64 y3 y1) 232) (.br (inb (ql .i64 y3 y1) 232) (.leaf (0,[(.i y0),(.i y1),(.i (qv .i64 (yY .i64 (ql .i64 (ql .i64 (cI y6 (ql .i64 y3 y1) 0) y2) (yM .i64 y0 (cI y9 y3 0))) 1000000000) 1)),(.i (ql .i64 y3 1)),(.b y4),(.i (qgb y5 (ql .i64 (ql .i64 y3 y1) 1))),(.r (qec y6 (ql .i64 y3 y1) 0 [(.i (ql .i64 (qv .i64 (ql .i64 (ql .i64 (cI y6 (ql .i64 y3 y1) 0) y2) (yM .i64 y0 (cI y9 y3 0))) (yM .i64 (yY .i64 (ql .i64 (ql .i64 (cI y6 (ql .i64 y3 y1) 0) y2) (yM .i64 y0 (cI y9 y3 0))) 1000000000) 1000000000)) 1000000000))])),(.b y7),(.i y8),(.r y9)])) .fail) .fail) (.br (inb (ql .i64 y3 y1) 232) (.br (inb (ql .i64 y3 y1) 232) (.leaf (0,[(.i y0),(.i y1),(.i (yY .i64 (ql .i64 (ql .i64 (cI y6 (ql .i64 y3 y1) 0) y2) (yM .i64 y0 (cI y9 y3 0))) 1000000000)),(.i (ql .i64 y3 1)),(.b y4),(.i (qgb y5 (ql .i64 (ql .i64 y3 y1) 1))),(.r (qec y6 (ql .i64 y3 y1) 0 [(.i (qv .i64 (ql .i64 (ql .i64 (cI y6 (ql .i64 y3 y1) 0) y2) (yM .i64 y0 (cI y9 y3 0))) (yM .i64 (yY .i64 (ql .i64 (ql .i64 (cI y6 (ql .i64 y3 y1) 0) y2) (yM .i64 y0 (cI y9 y3 0))) 1000000000) 1000000000)))])),(.b y7),(.i y8),(.r y9)])) .fail) .fail)) .fail) .fail) (.br (ilt (qv .i64 (ql .i64 (cI y6 (ql .i64 y3 y1) 0) y2) (yM .i64 (yY .i64 (ql .i64 (cI y6 (ql .i64 y3 y1) 0) y2) 1000000000) 1000000000)) 0) (.br (inb (ql .i64 y3 y1) 232) (.br (inb (ql .i64 y3 y1) 232) (.leaf (0,[(.i y0),(.i y1),(.i (qv .i64 (yY .i64 (ql .i64 (cI y6 (ql .i64 y3 y1) 0) y2) 1000000000) 1)),(.i (ql .i64 y3 1)),(.b y4),(.i (qgb y5 (ql .i64 (ql .i64 y3 y1) 1))),(.r (qec y6 (ql .i64 y3 y1) 0 [(.i (ql .i64 (qv .i64 (ql .i64 (cI y6 (ql .i64 y3 y1) 0) y2) (yM .i64 (yY .i64 (ql .i64 (cI y6 (ql .i64 y3 y1) 0) y2) 1000000000) 1000000000)) 1000000000))])),(.b y7),(.i y8),(.r y9)])) .fail) .fail) (.br (inb (ql .i64 y3 y1) 232) (.br (inb (ql .i64 y3 y1) 232) (.leaf (0,[(.i y0),(.i y1),(.i (yY .i64 (ql .i64 (cI y6 (ql .i64 y3 y1) 0) y2) 1000000000)),(.i (ql .i64 y3 1)),(.b y4),(.i (qgb y5 (ql .i64 (ql .i64 y3 y1) 1))),(.r (qec y6 (ql .i64 y3 y1) 0 [(.i (qv .i64 (ql .i64 (cI y6 (ql .i64 y3 y1) 0) y2) (yM .i64 (yY .i64 (ql .i64 (cI y6 (ql .i64 y3 y1) 0) y2) 1000000000) 1000000000)))])),(.b y7),(.i y8),(.r y9)])) .fail) .fail))) .fail) .fail) (.br (ine y2 0) (.br (inb (ql .i64 y3 y1) 232) (.br (inb (ql .i64 y3 y1) 232) (.br (ilt y3 y8) (.br (inb y3 232) (.br (inb y3 232) (.br (ilt (qv .i64 (ql .i64 (ql .i64 (cI y6 (ql .i64 y3 y1) 0) y2) (yM .i64 y0 (cI y9 y3 0))) (yM .i64 (yY .i64 (ql .i64 (ql .i64 (cI y6 (ql .i64 y3 y1) 0) y2) (yM .i64 y0 (cI y9 y3 0))) 1000000000) 1000000000)) 0) (.br (inb (ql .i64 y3 y1) 232) (.br (inb (ql .i64 y3 y1) 232) (.leaf (0,[(.i y0),(.i y1),(.i (qv .i64 (yY .i64 (ql .i64 (ql .i64 (cI y6 (ql .i64 y3 y1) 0) y2) (yM .i64 y0 (cI y9 y3 0))) 1000000000) 1)),(.i (ql .i64 y3 1)),(.b y4),(.i (qgb y5 (ql .i64 (ql .i64 y3 y1) 1))),(.r (qec y6 (ql .i64 y3 y1) 0 [(.i (ql .i64 (qv .i64 (ql .i64 (ql .i64 (cI y6 (ql .i64 y3 y1) 0) y2) (yM .i64 y0 (cI y9 y3 0))) (yM .i64 (yY .i64 (ql .i64 (ql .i64 (cI y6 (ql .i64 y3 y1) 0) y2) (yM .i64 y0 (cI y9 y3 0))) 1000000000) 1000000000)) 1000000000))])),(.b y7),(.i y8),(.r y9)])) .fail) .fail) (.br (inb (ql .i64 y3 y1) 232) (.br (inb (ql .i64 y3 y1) 232) (.leaf (0,[(.i y0),(.i y1),(.i (yY .i64 (ql .i64 (ql .i64 (cI y6 (ql .i64 y3 y1) 0) y2) (yM .i64 y0 (cI y9 y3 0))) 1000000000)),(.i (ql .i64 y3 1)),(.b y4),(.i (qgb y5 (ql .i64 (ql .i64 y3 y1) 1))),(.r (qec y6 (ql .i64 y3 y1) 0 [(.i (qv .i64 (ql .i64 (ql .i64 (cI y6 (ql .i64 y3 y1) 0) y2) (yM .i64 y0 (cI y9 y3 0))) (yM .i64 (yY .i64 (ql .i64 (ql .i64 (cI y6 (ql .i64 y3 y1) 0) y2) (yM .i64 y0 (cI y9 y3 0))) 1000000000) 1000000000)))])),(.b y7),(.i y8),(.r y9)])) .fail) .fail)) .fail) .fail) (.br (ilt (qv .i64 (ql .i64 (cI y6 (ql .i64 y3 y1) 0) y2) (yM .i64 (yY .i64 (ql .i64 (cI y6 (ql .i64 y3 y1) 0) y2) 1000000000) 1000000000)) 0) (.br (inb (ql .i64 y3 y1) 232) (.br (inb (ql .i64 y3 y1) 232) (.leaf (0,[(.i y0),(.i y1),(.i (qv .i64 (yY .i64 (ql .i64 (cI y6 (ql .i64 y3 y1) 0) y2) 1000000000) 1)),(.i (ql .i64 y3 1)),(.b y4),(.i (qgb y5 (ql .i64 (ql .i64 y3 y1) 1))),(.r (qec y6 (ql .i64 y3 y1) 0 [(.i (ql .i64 (qv .i64 (ql .i64 (cI y6 (ql .i64 y3 y1) 0) y2) (yM .i64 (yY .i64 (ql .i64 (cI y6 (ql .i64 y3 y1) 0) y2) 1000000000) 1000000000)) 1000000000))])),(.b y7),(.i y8),(.r y9)])) .fail) .fail) (.br (inb (ql .i64 y3 y1) 232) (.br (inb (ql .i64 y3 y1) 232) (.leaf (0,[(.i y0),(.i y1),(.i (yY .i64 (ql .i64 (cI y6 (ql .i64 y3 y1) 0) y2) 1000000000)),(.i (ql .i64 y3 1)),(.b y4),(.i (qgb y5 (ql .i64 (ql .i64 y3 y1) 1))),(.r (qec y6 (ql .i64 y3 y1) 0 [(.i (qv .i64 (ql .i64 (cI y6 (ql .i64 y3 y1) 0) y2) (yM .i64 (yY .i64 (ql .i64 (cI y6 (ql .i64 y3 y1) 0) y2) 1000000000) 1000000000)))])),(.b y7),(.i y8),(.r y9)])) .fail) .fail))) .fail) .fail) (.leaf (1,[(.b y4),(.i y5),(.r y6),(.b y7),(.i y8),(.r y9)])))):=by kernel_rfl
theorem qjm(x0:Int)(x1:Int)(x2:Bool)(x3:Int)(x4:R)(x5:Bool)(x6:Int)(x7:R):qL [.i x0,.i x1,.b x2,.i x3,.r x4,.b x5,.i x6,.r x7]=(let r0:TR:=(qg vU [(.i x0),(.i x1),(.i 0),(.i 0),(.b x2),(.i x3),(.r x4),(.b x5),(.i x6),(.r x7)])
 .br (okR r0) (let r1:TR:=(qC [(.b (gB r0 0)),(.i (gI r0 1)),(.r (gR r0 2))])
 .br (okR r1) (.leaf (0,[(.b (gB r1 0)),(.i (gI r1 1)),(.r (gR r1 2)),(.b (gB r0 3)),(.i (gI r0 4)),(.r (gR r0 5))])) .fail) .fail):=by kernel_rfl
theorem qgd(y0:Int)(y1:Bool)(y2:Int)(y3:R)(y4:Bool)(y5:Int)(y6:R):jN [.i y0,.b y1,.i y2,.r y3,.b y4,.i y5,.r y6]=(.br (ile 0 y0) (.br (inb y0 232) (.br (inb y0 232) (.br (inb y0 232) (.br (inb y0 232) (.br (ine (cI y3 y0 0) (cI y6 y0 0)) (.br (inb y0 232) (.br (inb y0 232) (.br (inb y0 232) (.br (inb y0 232) (.leaf (2,[(.i (qv .i64 (cI y3 y0 0) (cI y6 y0 0))),(.b y1),(.i y2),(.r y3),(.b y4),(.i y5),(.r y6)])) .fail) .fail) .fail) .fail) (.leaf (0,[(.i (qv .i64 y0 1)),(.b y1),(.i y2),(.r y3),(.b y4),(.i y5),(.r y6)]))) .fail) .fail) .fail) .fail) (.leaf (1,[(.b y1),(.i y2),(.r y3),(.b y4),(.i y5),(.r y6)]))):=by kernel_rfl
theorem qim(x0:Bool)(x1:Int)(x2:R)(x3:Bool)(x4:Int)(x5:R):zG [.b x0,.i x1,.r x2,.b x3,.i x4,.r x5]=(.br (ine x1 x4) (.leaf (0,[(.i (qv .i64 x1 x4)),(.b x0),(.i x1),(.r x2),(.b x3),(.i x4),(.r x5)])) (let r0:TR:=(qg jN [(.i (qv .i64 x1 1)),(.b x0),(.i x1),(.r x2),(.b x3),(.i x4),(.r x5)])
 .br (okR r0) (.br (jIs r0 0) (.leaf (0,[(.i 0),(.b (gB r0 0)),(.i (gI r0 1)),(.r (gR r0 2)),(.b (gB r0 3)),(.i (gI r0 4)),(.r (gR r0 5))])) (.leaf (0,[(.i (gI r0 0)),(.b (gB r0 1)),(.i (gI r0 2)),(.r (gR r0 3)),(.b (gB r0 4)),(.i (gI r0 5)),(.r (gR r0 6))]))) .fail)):=by kernel_rfl
theorem qmT(x0:Bool)(x1:Int)(x2:R)(x3:Bool)(x4:Int)(x5:R):yw [.b x0,.i x1,.r x2,.b x3,.i x4,.r x5]=(.br (ilt x4 0) (.br (ilt (qv .i64 x4 1) 0) (.br (ilt (qv .i64 x4 1) 0) (.br (ilt 1 x4) (.leaf (0,[(.i 1),(.b x0),(.i x1),(.r x2),(.b x3),(.i x4),(.r x5)])) .fail) (.br (ile x4 (qv .i64 x4 1)) (.br (ilt 1 x4) (.leaf (0,[(.i 1),(.b x0),(.i x1),(.r x2),(.b x3),(.i x4),(.r x5)])) .fail) (.br (inb (qv .i64 x4 1) 232) (.br (inb (qv .i64 x4 1) 232) (.br (ilt 1 x4) (.br (ine (ql .i64 (cI x5 (qv .i64 x4 1) 0) 1) 0) (.br (ilt 0 (yY .i64 0 (ql .i64 (cI x5 (qv .i64 x4 1) 0) 1))) (.leaf (0,[(.i (qbf (yY .i64 0 (ql .i64 (cI x5 (qv .i64 x4 1) 0) 1)) 999999999)),(.b x0),(.i x1),(.r x2),(.b x3),(.i x4),(.r x5)])) (.leaf (0,[(.i 1),(.b x0),(.i x1),(.r x2),(.b x3),(.i x4),(.r x5)]))) .fail) (.br (ine (cI x5 (qv .i64 x4 1) 0) 0) (.br (ilt 0 (yY .i64 0 (cI x5 (qv .i64 x4 1) 0))) (.leaf (0,[(.i (qbf (yY .i64 0 (cI x5 (qv .i64 x4 1) 0)) 999999999)),(.b x0),(.i x1),(.r x2),(.b x3),(.i x4),(.r x5)])) (.leaf (0,[(.i 1),(.b x0),(.i x1),(.r x2),(.b x3),(.i x4),(.r x5)]))) .fail)) .fail) .fail))) (.br (ile x1 (qv .i64 x4 1)) (.br (ilt (qv .i64 x4 1) 0) (.br (ilt 1 x4) (.leaf (0,[(.i 1),(.b x0),(.i x1),(.r x2),(.b x3),(.i x4),(.r x5)])) .fail) (.br (ile x4 (qv .i64 x4 1)) (.br (ilt 1 x4) (.leaf (0,[(.i 1),(.b x0),(.i x1),(.r x2),(.b x3),(.i x4),(.r x5)])) .fail) (.br (inb (qv .i64 x4 1) 232) (.br (inb (qv .i64 x4 1) 232) (.br (ilt 1 x4) (.br (ine (ql .i64 (cI x5 (qv .i64 x4 1) 0) 1) 0) (.br (ilt 0 (yY .i64 0 (ql .i64 (cI x5 (qv .i64 x4 1) 0) 1))) (.leaf (0,[(.i (qbf (yY .i64 0 (ql .i64 (cI x5 (qv .i64 x4 1) 0) 1)) 999999999)),(.b x0),(.i x1),(.r x2),(.b x3),(.i x4),(.r x5)])) (.leaf (0,[(.i 1),(.b x0),(.i x1),(.r x2),(.b x3),(.i x4),(.r x5)]))) .fail) (.br (ine (cI x5 (qv .i64 x4 1) 0) 0) (.br (ilt 0 (yY .i64 0 (cI x5 (qv .i64 x4 1) 0))) (.leaf (0,[(.i (qbf (yY .i64 0 (cI x5 (qv .i64 x4 1) 0)) 999999999)),(.b x0),(.i x1),(.r x2),(.b x3),(.i x4),(.r x5)])) (.leaf (0,[(.i 1),(.b x0),(.i x1),(.r x2),(.b x3),(.i x4),(.r x5)]))) .fail)) .fail) .fail))) (.br (inb (qv .i64 x4 1) 232) (.br (inb (qv .i64 x4 1) 232) (.br (ilt (qv .i64 x4 1) 0) (.br (ilt 1 x4) (.br (ilt 0 (yY .i64 (ql .i64 0 (cI x2 (qv .i64 x4 1) 0)) 1)) (.leaf (0,[(.i (qbf (yY .i64 (ql .i64 0 (cI x2 (qv .i64 x4 1) 0)) 1) 999999999)),(.b x0),(.i x1),(.r x2),(.b x3),(.i x4),(.r x5)])) (.leaf (0,[(.i 1),(.b x0),(.i x1),(.r x2),(.b x3),(.i x4),(.r x5)]))) .fail) (.br (ile x4 (qv .i64 x4 1)) (.br (ilt 1 x4) (.br (ilt 0 (yY .i64 (ql .i64 0 (cI x2 (qv .i64 x4 1) 0)) 1)) (.leaf (0,[(.i (qbf (yY .i64 (ql .i64 0 (cI x2 (qv .i64 x4 1) 0)) 1) 999999999)),(.b x0),(.i x1),(.r x2),(.b x3),(.i x4),(.r x5)])) (.leaf (0,[(.i 1),(.b x0),(.i x1),(.r x2),(.b x3),(.i x4),(.r x5)]))) .fail) (.br (inb (qv .i64 x4 1) 232) (.br (inb (qv .i64 x4 1) 232) (.br (ilt 1 x4) (.br (ine (ql .i64 (cI x5 (qv .i64 x4 1) 0) 1) 0) (.br (ilt 0 (yY .i64 (ql .i64 0 (cI x2 (qv .i64 x4 1) 0)) (ql .i64 (cI x5 (qv .i64 x4 1) 0) 1))) (.leaf (0,[(.i (qbf (yY .i64 (ql .i64 0 (cI x2 (qv .i64 x4 1) 0)) (ql .i64 (cI x5 (qv .i64 x4 1) 0) 1)) 999999999)),(.b x0),(.i x1),(.r x2),(.b x3),(.i x4),(.r x5)])) (.leaf (0,[(.i 1),(.b x0),(.i x1),(.r x2),(.b x3),(.i x4),(.r x5)]))) .fail) (.br (ine (cI x5 (qv .i64 x4 1) 0) 0) (.br (ilt 0 (yY .i64 (ql .i64 0 (cI x2 (qv .i64 x4 1) 0)) (cI x5 (qv .i64 x4 1) 0))) (.leaf (0,[(.i (qbf (yY .i64 (ql .i64 0 (cI x2 (qv .i64 x4 1) 0)) (cI x5 (qv .i64 x4 1) 0)) 999999999)),(.b x0),(.i x1),(.r x2),(.b x3),(.i x4),(.r x5)])) (.leaf (0,[(.i 1),(.b x0),(.i x1),(.r x2),(.b x3),(.i x4),(.r x5)]))) .fail)) .fail) .fail))) .fail) .fail))) (.br (ile x1 x4) (.br (ilt (qv .i64 x4 1) 0) (.br (ilt (qv .i64 x4 1) 0) (.br (ilt 1 x4) (.leaf (0,[(.i 1),(.b x0),(.i x1),(.r x2),(.b x3),(.i x4),(.r x5)])) .fail) (.br (ile x4 (qv .i64 x4 1)) (.br (ilt 1 x4) (.leaf (0,[(.i 1),(.b x0),(.i x1),(.r x2),(.b x3),(.i x4),(.r x5)])) .fail) (.br (inb (qv .i64 x4 1) 232) (.br (inb (qv .i64 x4 1) 232) (.br (ilt 1 x4) (.br (ine (ql .i64 (cI x5 (qv .i64 x4 1) 0) 1) 0) (.br (ilt 0 (yY .i64 0 (ql .i64 (cI x5 (qv .i64 x4 1) 0) 1))) (.leaf (0,[(.i (qbf (yY .i64 0 (ql .i64 (cI x5 (qv .i64 x4 1) 0) 1)) 999999999)),(.b x0),(.i x1),(.r x2),(.b x3),(.i x4),(.r x5)])) (.leaf (0,[(.i 1),(.b x0),(.i x1),(.r x2),(.b x3),(.i x4),(.r x5)]))) .fail) (.br (ine (cI x5 (qv .i64 x4 1) 0) 0) (.br (ilt 0 (yY .i64 0 (cI x5 (qv .i64 x4 1) 0))) (.leaf (0,[(.i (qbf (yY .i64 0 (cI x5 (qv .i64 x4 1) 0)) 999999999)),(.b x0),(.i x1),(.r x2),(.b x3),(.i x4),(.r x5)])) (.leaf (0,[(.i 1),(.b x0),(.i x1),(.r x2),(.b x3),(.i x4),(.r x5)]))) .fail)) .fail) .fail))) (.br (ile x1 (qv .i64 x4 1)) (.br (ilt (qv .i64 x4 1) 0) (.br (ilt 1 x4) (.leaf (0,[(.i 1),(.b x0),(.i x1),(.r x2),(.b x3),(.i x4),(.r x5)])) .fail) (.br (ile x4 (qv .i64 x4 1)) (.br (ilt 1 x4) (.leaf (0,[(.i 1),(.b x0),(.i x1),(.r x2),(.b x3),(.i x4),(.r x5)])) .fail) (.br (inb (qv .i64 x4 1) 232) (.br (inb (qv .i64 x4 1) 232) (.br (ilt 1 x4) (.br (ine (ql .i64 (cI x5 (qv .i64 x4 1) 0) 1) 0) (.br (ilt 0 (yY .i64 0 (ql .i64 (cI x5 (qv .i64 x4 1) 0) 1))) (.leaf (0,[(.i (qbf (yY .i64 0 (ql .i64 (cI x5 (qv .i64 x4 1) 0) 1)) 999999999)),(.b x0),(.i x1),(.r x2),(.b x3),(.i x4),(.r x5)])) (.leaf (0,[(.i 1),(.b x0),(.i x1),(.r x2),(.b x3),(.i x4),(.r x5)]))) .fail) (.br (ine (cI x5 (qv .i64 x4 1) 0) 0) (.br (ilt 0 (yY .i64 0 (cI x5 (qv .i64 x4 1) 0))) (.leaf (0,[(.i (qbf (yY .i64 0 (cI x5 (qv .i64 x4 1) 0)) 999999999)),(.b x0),(.i x1),(.r x2),(.b x3),(.i x4),(.r x5)])) (.leaf (0,[(.i 1),(.b x0),(.i x1),(.r x2),(.b x3),(.i x4),(.r x5)]))) .fail)) .fail) .fail))) (.br (inb (qv .i64 x4 1) 232) (.br (inb (qv .i64 x4 1) 232) (.br (ilt (qv .i64 x4 1) 0) (.br (ilt 1 x4) (.br (ilt 0 (yY .i64 (ql .i64 0 (cI x2 (qv .i64 x4 1) 0)) 1)) (.leaf (0,[(.i (qbf (yY .i64 (ql .i64 0 (cI x2 (qv .i64 x4 1) 0)) 1) 999999999)),(.b x0),(.i x1),(.r x2),(.b x3),(.i x4),(.r x5)])) (.leaf (0,[(.i 1),(.b x0),(.i x1),(.r x2),(.b x3),(.i x4),(.r x5)]))) .fail) (.br (ile x4 (qv .i64 x4 1)) (.br (ilt 1 x4) (.br (ilt 0 (yY .i64 (ql .i64 0 (cI x2 (qv .i64 x4 1) 0)) 1)) (.leaf (0,[(.i (qbf (yY .i64 (ql .i64 0 (cI x2 (qv .i64 x4 1) 0)) 1) 999999999)),(.b x0),(.i x1),(.r x2),(.b x3),(.i x4),(.r x5)])) (.leaf (0,[(.i 1),(.b x0),(.i x1),(.r x2),(.b x3),(.i x4),(.r x5)]))) .fail) (.br (inb (qv .i64 x4 1) 232) (.br (inb (qv .i64 x4 1) 232) (.br (ilt 1 x4) (.br (ine (ql .i64 (cI x5 (qv .i64 x4 1) 0) 1) 0) (.br (ilt 0 (yY .i64 (ql .i64 0 (cI x2 (qv .i64 x4 1) 0)) (ql .i64 (cI x5 (qv .i64 x4 1) 0) 1))) (.leaf (0,[(.i (qbf (yY .i64 (ql .i64 0 (cI x2 (qv .i64 x4 1) 0)) (ql .i64 (cI x5 (qv .i64 x4 1) 0) 1)) 999999999)),(.b x0),(.i x1),(.r x2),(.b x3),(.i x4),(.r x5)])) (.leaf (0,[(.i 1),(.b x0),(.i x1),(.r x2),(.b x3),(.i x4),(.r x5)]))) .fail) (.br (ine (cI x5 (qv .i64 x4 1) 0) 0) (.br (ilt 0 (yY .i64 (ql .i64 0 (cI x2 (qv .i64 x4 1) 0)) (cI x5 (qv .i64 x4 1) 0))) (.leaf (0,[(.i (qbf (yY .i64 (ql .i64 0 (cI x2 (qv .i64 x4 1) 0)) (cI x5 (qv .i64 x4 1) 0)) 999999999)),(.b x0),(.i x1),(.r x2),(.b x3),(.i x4),(.r x5)])) (.leaf (0,[(.i 1),(.b x0),(.i x1),(.r x2),(.b x3),(.i x4),(.r x5)]))) .fail)) .fail) .fail))) .fail) .fail))) (.br (inb x4 232) (.br (inb x4 232) (.br (ilt (qv .i64 x4 1) 0) (.br (ilt (qv .i64 x4 1) 0) (.br (ilt 1 x4) (.br (ilt 0 (yY .i64 (ql .i64 (yM .i64 (cI x2 x4 0) 1000000000) 0) 1)) (.leaf (0,[(.i (qbf (yY .i64 (ql .i64 (yM .i64 (cI x2 x4 0) 1000000000) 0) 1) 999999999)),(.b x0),(.i x1),(.r x2),(.b x3),(.i x4),(.r x5)])) (.leaf (0,[(.i 1),(.b x0),(.i x1),(.r x2),(.b x3),(.i x4),(.r x5)]))) .fail) (.br (ile x4 (qv .i64 x4 1)) (.br (ilt 1 x4) (.br (ilt 0 (yY .i64 (ql .i64 (yM .i64 (cI x2 x4 0) 1000000000) 0) 1)) (.leaf (0,[(.i (qbf (yY .i64 (ql .i64 (yM .i64 (cI x2 x4 0) 1000000000) 0) 1) 999999999)),(.b x0),(.i x1),(.r x2),(.b x3),(.i x4),(.r x5)])) (.leaf (0,[(.i 1),(.b x0),(.i x1),(.r x2),(.b x3),(.i x4),(.r x5)]))) .fail) (.br (inb (qv .i64 x4 1) 232) (.br (inb (qv .i64 x4 1) 232) (.br (ilt 1 x4) (.br (ine (ql .i64 (cI x5 (qv .i64 x4 1) 0) 1) 0) (.br (ilt 0 (yY .i64 (ql .i64 (yM .i64 (cI x2 x4 0) 1000000000) 0) (ql .i64 (cI x5 (qv .i64 x4 1) 0) 1))) (.leaf (0,[(.i (qbf (yY .i64 (ql .i64 (yM .i64 (cI x2 x4 0) 1000000000) 0) (ql .i64 (cI x5 (qv .i64 x4 1) 0) 1)) 999999999)),(.b x0),(.i x1),(.r x2),(.b x3),(.i x4),(.r x5)])) (.leaf (0,[(.i 1),(.b x0),(.i x1),(.r x2),(.b x3),(.i x4),(.r x5)]))) .fail) (.br (ine (cI x5 (qv .i64 x4 1) 0) 0) (.br (ilt 0 (yY .i64 (ql .i64 (yM .i64 (cI x2 x4 0) 1000000000) 0) (cI x5 (qv .i64 x4 1) 0))) (.leaf (0,[(.i (qbf (yY .i64 (ql .i64 (yM .i64 (cI x2 x4 0) 1000000000) 0) (cI x5 (qv .i64 x4 1) 0)) 999999999)),(.b x0),(.i x1),(.r x2),(.b x3),(.i x4),(.r x5)])) (.leaf (0,[(.i 1),(.b x0),(.i x1),(.r x2),(.b x3),(.i x4),(.r x5)]))) .fail)) .fail) .fail))) (.br (ile x1 (qv .i64 x4 1)) (.br (ilt (qv .i64 x4 1) 0) (.br (ilt 1 x4) (.br (ilt 0 (yY .i64 (ql .i64 (yM .i64 (cI x2 x4 0) 1000000000) 0) 1)) (.leaf (0,[(.i (qbf (yY .i64 (ql .i64 (yM .i64 (cI x2 x4 0) 1000000000) 0) 1) 999999999)),(.b x0),(.i x1),(.r x2),(.b x3),(.i x4),(.r x5)])) (.leaf (0,[(.i 1),(.b x0),(.i x1),(.r x2),(.b x3),(.i x4),(.r x5)]))) .fail) (.br (ile x4 (qv .i64 x4 1)) (.br (ilt 1 x4) (.br (ilt 0 (yY .i64 (ql .i64 (yM .i64 (cI x2 x4 0) 1000000000) 0) 1)) (.leaf (0,[(.i (qbf (yY .i64 (ql .i64 (yM .i64 (cI x2 x4 0) 1000000000) 0) 1) 999999999)),(.b x0),(.i x1),(.r x2),(.b x3),(.i x4),(.r x5)])) (.leaf (0,[(.i 1),(.b x0),(.i x1),(.r x2),(.b x3),(.i x4),(.r x5)]))) .fail) (.br (inb (qv .i64 x4 1) 232) (.br (inb (qv .i64 x4 1) 232) (.br (ilt 1 x4) (.br (ine (ql .i64 (cI x5 (qv .i64 x4 1) 0) 1) 0) (.br (ilt 0 (yY .i64 (ql .i64 (yM .i64 (cI x2 x4 0) 1000000000) 0) (ql .i64 (cI x5 (qv .i64 x4 1) 0) 1))) (.leaf (0,[(.i (qbf (yY .i64 (ql .i64 (yM .i64 (cI x2 x4 0) 1000000000) 0) (ql .i64 (cI x5 (qv .i64 x4 1) 0) 1)) 999999999)),(.b x0),(.i x1),(.r x2),(.b x3),(.i x4),(.r x5)])) (.leaf (0,[(.i 1),(.b x0),(.i x1),(.r x2),(.b x3),(.i x4),(.r x5)]))) .fail) (.br (ine (cI x5 (qv .i64 x4 1) 0) 0) (.br (ilt 0 (yY .i64 (ql .i64 (yM .i64 (cI x2 x4 0) 1000000000) 0) (cI x5 (qv .i64 x4 1) 0))) (.leaf (0,[(.i (qbf (yY .i64 (ql .i64 (yM .i64 (cI x2 x4 0) 1000000000) 0) (cI x5 (qv .i64 x4 1) 0)) 999999999)),(.b x0),(.i x1),(.r x2),(.b x3),(.i x4),(.r x5)])) (.leaf (0,[(.i 1),(.b x0),(.i x1),(.r x2),(.b x3),(.i x4),(.r x5)]))) .fail)) .fail) .fail))) (.br (inb (qv .i64 x4 1) 232) (.br (inb (qv .i64 x4 1) 232) (.br (ilt (qv .i64 x4 1) 0) (.br (ilt 1 x4) (.br (ilt 0 (yY .i64 (ql .i64 (yM .i64 (cI x2 x4 0) 1000000000) (cI x2 (qv .i64 x4 1) 0)) 1)) (.leaf (0,[(.i (qbf (yY .i64 (ql .i64 (yM .i64 (cI x2 x4 0) 1000000000) (cI x2 (qv .i64 x4 1) 0)) 1) 999999999)),(.b x0),(.i x1),(.r x2),(.b x3),(.i x4),(.r x5)])) (.leaf (0,[(.i 1),(.b x0),(.i x1),(.r x2),(.b x3),(.i x4),(.r x5)]))) .fail) (.br (ile x4 (qv .i64 x4 1)) (.br (ilt 1 x4) (.br (ilt 0 (yY .i64 (ql .i64 (yM .i64 (cI x2 x4 0) 1000000000) (cI x2 (qv .i64 x4 1) 0)) 1)) (.leaf (0,[(.i (qbf (yY .i64 (ql .i64 (yM .i64 (cI x2 x4 0) 1000000000) (cI x2 (qv .i64 x4 1) 0)) 1) 999999999)),(.b x0),(.i x1),(.r x2),(.b x3),(.i x4),(.r x5)])) (.leaf (0,[(.i 1),(.b x0),(.i x1),(.r x2),(.b x3),(.i x4),(.r x5)]))) .fail) (.br (inb (qv .i64 x4 1) 232) (.br (inb (qv .i64 x4 1) 232) (.br (ilt 1 x4) (.br (ine (ql .i64 (cI x5 (qv .i64 x4 1) 0) 1) 0) (.br (ilt 0 (yY .i64 (ql .i64 (yM .i64 (cI x2 x4 0) 1000000000) (cI x2 (qv .i64 x4 1) 0)) (ql .i64 (cI x5 (qv .i64 x4 1) 0) 1))) (.leaf (0,[(.i (qbf (yY .i64 (ql .i64 (yM .i64 (cI x2 x4 0) 1000000000) (cI x2 (qv .i64 x4 1) 0)) (ql .i64 (cI x5 (qv .i64 x4 1) 0) 1)) 999999999)),(.b x0),(.i x1),(.r x2),(.b x3),(.i x4),(.r x5)])) (.leaf (0,[(.i 1),(.b x0),(.i x1),(.r x2),(.b x3),(.i x4),(.r x5)]))) .fail) (.br (ine (cI x5 (qv .i64 x4 1) 0) 0) (.br (ilt 0 (yY .i64 (ql .i64 (yM .i64 (cI x2 x4 0) 1000000000) (cI x2 (qv .i64 x4 1) 0)) (cI x5 (qv .i64 x4 1) 0))) (.leaf (0,[(.i (qbf (yY .i64 (ql .i64 (yM .i64 (cI x2 x4 0) 1000000000) (cI x2 (qv .i64 x4 1) 0)) (cI x5 (qv .i64 x4 1) 0)) 999999999)),(.b x0),(.i x1),(.r x2),(.b x3),(.i x4),(.r x5)])) (.leaf (0,[(.i 1),(.b x0),(.i x1),(.r x2),(.b x3),(.i x4),(.r x5)]))) .fail)) .fail) .fail))) .fail) .fail))) .fail) .fail))):=by kernel_rfl
theorem qjP(y0:Int)(y1:Int)(y2:Bool)(y3:Int)(y4:R)(y5:Bool)(y6:Int)(y7:R)(y8:Bool)(y9:Int)(y10:R)(y11:Bool)(y12:Int)(y13:R):yf [.i y0,.i y1,.b y2,.i y3,.r y4,.b y5,.i y6,.r y7,.b y8,.i y9,.r y10,.b y11,.i y12,.r y13]=(let r0:TR:=(zG [(.b y11),(.i y12),(.r y13),(.b y5),(.i y6),(.r y7)])
 .br (okR r0) (.br (ile 0 (gI r0 0)) (let r1:TR:=(yw [(.b (gB r0 1)),(.i (gI r0 2)),(.r (gR r0 3)),(.b (gB r0 4)),(.i (gI r0 5)),(.r (gR r0 6))])
 .br (okR r1) (let r2:TR:=(qL [(.i (qv .i64 0 (gI r1 0))),(.i 0),(.b (gB r1 1)),(.i (gI r1 2)),(.r (gR r1 3)),(.b (gB r1 4)),(.i (gI r1 5)),(.r (gR r1 6))])
 .br (okR r2) (.leaf (0,[(.i y0),(.i (ql .i64 y1 (gI r1 0))),(.b y2),(.i y3),(.r y4),(.b (gB r2 3)),(.i (gI r2 4)),(.r (gR r2 5)),(.b y8),(.i y9),(.r y10),(.b (gB r2 0)),(.i (gI r2 1)),(.r (gR r2 2))])) .fail) .fail) (.leaf (1,[(.i y0),(.i y1),(.b y2),(.i y3),(.r y4),(.b (gB r0 4)),(.i (gI r0 5)),(.r (gR r0 6)),(.b y8),(.i y9),(.r y10),(.b (gB r0 1)),(.i (gI r0 2)),(.r (gR r0 3))]))) .fail):=by kernel_rfl
theorem qm5(y0:Int)(y1:Bool)(y2:Int)(y3:R)(y4:Bool)(y5:Int)(y6:R)(y7:Bool)(y8:Int)(y9:R)(y10:Bool)(y11:Int)(y12:R):q0N [.i y0,.b y1,.i y2,.r y3,.b y4,.i y5,.r y6,.b y7,.i y8,.r y9,.b y10,.i y11,.r y12]=(.br (ile 0 y0) (.br (q6A 232 232) (.br (q6A 1 232) (.br (q6A y11 232) (.br (q6A 0 y11) (.br (inb y0 232) (.br (inb y0 232) (let r0:TR:=(qC [(.b y10),(.i (ql .i64 y11 1)),(.r (qec (qkK y12 1 y12 0 (qbf (qxc y11 0) (qxc 232 1))) 0 0 [(.i (cI y3 y0 0))]))])
 .br (okR r0) (let r1:TR:=(qg yf [(.i y0),(.i 0),(.b y1),(.i y2),(.r y3),(.b y4),(.i y5),(.r y6),(.b y7),(.i y8),(.r y9),(.b (gB r0 0)),(.i (gI r0 1)),(.r (gR r0 2))])
 .br (okR r1) (.br (inb (gI r1 0) 232) (.br (inb (gI r1 0) 232) (.leaf (0,[(.i (qv .i64 (gI r1 0) 1)),(.b (gB r1 2)),(.i (gI r1 3)),(.r (gR r1 4)),(.b (gB r1 5)),(.i (gI r1 6)),(.r (gR r1 7)),(.b (gB r1 8)),(.i (qgb (gI r1 9) (ql .i64 (gI r1 0) 1))),(.r (qec (gR r1 10) (gI r1 0) 0 [(.i (gI r1 1))])),(.b (gB r1 11)),(.i (gI r1 12)),(.r (gR r1 13))])) .fail) .fail) .fail) .fail) .fail) .fail) .fail) .fail) .fail) .fail) (.leaf (1,[(.b y1),(.i y2),(.r y3),(.b y4),(.i y5),(.r y6),(.b y7),(.i y8),(.r y9),(.b y10),(.i y11),(.r y12)]))):=by kernel_rfl
theorem qob(x0:Bool)(x1:Int)(x2:R)(x3:Bool)(x4:Int)(x5:R):wO [.b x0,.i x1,.r x2,.b x3,.i x4,.r x5]=(let r0:TR:=(qg q0N [(.i (qv .i64 x1 1)),(.b x0),(.i x1),(.r x2),(.b x3),(.i x4),(.r x5),(.b false),(.i 0),(.r (q3R 232 [(.i 0)])),(.b false),(.i 0),(.r (q3R 232 [(.i 0)]))])
 .br (okR r0) (let r1:TR:=(qC [(.b (gB r0 6)),(.i (gI r0 7)),(.r (gR r0 8))])
 .br (okR r1) (.leaf (0,[(.b (gB r0 0)),(.i (gI r0 1)),(.r (gR r0 2)),(.b (gB r0 3)),(.i (gI r0 4)),(.r (gR r0 5)),(.b (gB r1 0)),(.i (gI r1 1)),(.r (gR r1 2)),(.b (gB r0 9)),(.i (gI r0 10)),(.r (gR r0 11))])) .fail) .fail):=by kernel_rfl
theorem qpj(y0:Int)(y1:Int):q1S [.i y0,.i y1]=(.br (ine y1 0) (.br (ine y1 0) (.leaf (0,[(.i y1),(.i (q6E y0 y1))])) .fail) (.leaf (1,[(.i y0)]))):=by kernel_rfl
theorem qrf(y0:Bool)(y1:Int)(y2:R)(y3:Bool)(y4:Int)(y5:R):q5s [.b y0,.i y1,.r y2,.b y3,.i y4,.r y5]=(.br (ilt 0 y4) (.br (ile y1 1) (.br (ile y4 1) (let r0:TR:=(qg q1S [(.i (cI y2 0 0)),(.i (cI y5 0 0))])
 .br (okR r0) (let r1:TR:=(zt [(.i (gI r0 0))])
 .br (okR r1) (.leaf (2,[(.s (gS r1 0)),(.i 0)])) .fail) .fail) (let r0:TR:=(wO [(.b y0),(.i y1),(.r y2),(.b y3),(.i y4),(.r y5)])
 .br (okR r0) (.leaf (0,[(.b (gB r0 3)),(.i (gI r0 4)),(.r (gR r0 5)),(.b (gB r0 9)),(.i (gI r0 10)),(.r (gR r0 11))])) .fail)) (let r0:TR:=(wO [(.b y0),(.i y1),(.r y2),(.b y3),(.i y4),(.r y5)])
 .br (okR r0) (.leaf (0,[(.b (gB r0 3)),(.i (gI r0 4)),(.r (gR r0 5)),(.b (gB r0 9)),(.i (gI r0 10)),(.r (gR r0 11))])) .fail)) (.leaf (1,[(.b y0),(.i y1),(.r y2)]))):=by kernel_rfl
theorem qvv(x0:List UInt8)(x1:List UInt8):q2A [.s x0,.s x1]=(let r0:TR:=(zS [(.r [[(.s x0)],[(.s x1)]])])
 .br (okR r0) (.br (ine (gI r0 0) 0) (.leaf (0,[(.s []),(.i (gI r0 0))])) (let r1:TR:=(zz [(.s x0)])
 .br (okR r1) (let r2:TR:=(zz [(.s x1)])
 .br (okR r2) (let r3:TR:=(qg q5s [(.b (gB r1 0)),(.i (gI r1 1)),(.r (gR r1 2)),(.b (gB r2 0)),(.i (gI r2 1)),(.r (gR r2 2))])
 .br (okR r3) (.br (jIs r3 0) (let r4:TR:=(qM [(.b false),(.i (gI r3 1)),(.r (gR r3 2))])
 .br (okR r4) (.leaf (0,[(.s (gS r4 0)),(.i 0)])) .fail) (.leaf (0,[(.s (gS r3 0)),(.i (gI r3 1))]))) .fail) .fail) .fail)) .fail):=by kernel_rfl
theorem qqY(x0:List UInt8):vH [.s x0]=(let r0:TR:=(qP [(.s x0)])
 .br (okR r0) (let r1:TR:=(qO [(.s (gS r0 0))])
 .br (okR r1) (let r2:TR:=(qO [(.s (gS r0 1))])
 .br (okR r2) (.br (ieq (gI r1 0) 3) (.leaf (0,[(.i 3)])) (.br (ieq (gI r2 0) 3) (.leaf (0,[(.i 3)])) (.br (ine (gI r1 0) 0) (.leaf (0,[(.i (qgb (gI r1 0) (gI r2 0)))])) (.br (ine (gI r2 0) 0) (.leaf (0,[(.i (qgb (gI r1 0) (gI r2 0)))])) (.br (not (gB r0 2)) (.leaf (0,[(.i 0)])) (let r3:TR:=(q2H [(.s (gS r0 1)),(.s [49])])
 .br (okR r3) (let r4:TR:=(q2A [(.s (gS r0 0)),(.s (gS r0 1))])
 .br (okR r4) (.br (ine (gI r3 1) 0) (.leaf (0,[(.i 3)])) (.br (ine (gI r4 1) 0) (.leaf (0,[(.i 3)])) (.br (ile (gI r3 0) 0) (.leaf (0,[(.i 3)])) (.br (not (seq (gS r4 0) [49])) (.leaf (0,[(.i 3)])) (.leaf (0,[(.i 0)])))))) .fail) .fail)))))) .fail) .fail) .fail):=by kernel_rfl
theorem q4P(y0:Int)(y1:Int)(y2:List UInt8)(y3:List UInt8)(y4:List UInt8)(y5:R):q2P [.i y0,.i y1,.s y2,.s y3,.s y4,.r y5]=(.br (ilt y1 y0) (.br (inb y1 (qh y5)) (let r0:TR:=(vH [(.s (cS y5 y1 0))])
 .br (okR r0) (.br (ine (gI r0 0) 0) (.leaf (2,[(.i (gI r0 0))])) (.leaf (0,[(.i y0),(.i (ql .i64 y1 1)),(.s y2),(.s y3),(.s y4),(.r y5)]))) .fail) .fail) (.leaf (1,[(.s y2),(.s y3),(.s y4)]))):=by kernel_rfl
theorem qr9(x0:List UInt8)(x1:List UInt8)(x2:List UInt8):q2T [.s x0,.s x1,.s x2]=(let r0:TR:=(qg q2P [(.i (qh [[(.s x0)],[(.s x1)],[(.s x2)]])),(.i 0),(.s x0),(.s x1),(.s x2),(.r [[(.s x0)],[(.s x1)],[(.s x2)]])])
 .br (okR r0) (.br (jIs r0 0) (.br (inb 0 (qu (gS r0 2))) (.br (ieq (sat (gS r0 2) 0) 45) (.leaf (0,[(.i 2)])) (.leaf (0,[(.i 0)]))) .fail) (.leaf (0,[(.i (gI r0 0))]))) .fail):=by kernel_rfl
theorem qhA(y0:R)(y1:R)(y2:Int)(y3:Int):q41 [.r y0,.r y1,.i y2,.i y3]=(.br (ilt y3 y2) (.br (inb y3 (qh y1)) (let r0:TR:=(q2T [(.s (cS y1 y3 0)),(.s (cS y1 y3 1)),(.s (cS y1 y3 2))])
 .br (okR r0) (.br (ine (gI r0 0) 0) (.leaf (2,[(.i (gI r0 0))])) (.leaf (0,[(.r y0),(.r y1),(.i y2),(.i (ql .i64 y3 1))]))) .fail) .fail) (.leaf (1,[(.r y0)]))):=by kernel_rfl
theorem qsW(x0:R):wc [.r x0]=(.br (ilt 64 (qh x0)) (.leaf (0,[(.i 5)])) (let r0:TR:=(qg q41 [(.r x0),(.r x0),(.i (qh x0)),(.i 0)])
 .br (okR r0) (.br (jIs r0 0) (.br (ieq (qh (gR r0 0)) 0) (.leaf (0,[(.i 13)])) (.leaf (0,[(.i 0)]))) (.leaf (0,[(.i (gI r0 0))]))) .fail)):=by kernel_rfl
theorem qrh(x0:List UInt8)(x1:List UInt8):yW [.s x0,.s x1]=(.br (ilt 9 (qu x0)) (.leaf (0,[(.i 0),(.i 0),(.b false)])) (.br (ilt 9 (qu x1)) (.leaf (0,[(.i 0),(.i 0),(.b false)])) (.br (okR (vD [(.s x0)])) (.br (okR (vD [(.s x1)])) (.leaf (0,[(.i (gI (vD [(.s x0)]) 0)),(.i (gI (vD [(.s x1)]) 0)),(.b true)])) .fail) .fail))):=by kernel_rfl
theorem qoO(x0:Int):kN [.i x0]=(.br (okR (zt [(.i x0)])) (.leaf (0,[(.s (gS (zt [(.i x0)]) 0)),(.i 0)])) .fail):=by kernel_rfl
theorem qhp(y0:Int)(y1:Int)(y2:Bool)(y3:Int)(y4:R)(y5:Bool)(y6:Int)(y7:R)(y8:Bool)(y9:Int)(y10:R):yL [.i y0,.i y1,.b y2,.i y3,.r y4,.b y5,.i y6,.r y7,.b y8,.i y9,.r y10]=(.br (ilt y1 y0) (.br (inb y1 232) (.br (inb y1 232) (let r0:TR:=(qL [(.i (cI y7 y1 0)),(.i y1),(.b y8),(.i y9),(.r y10),(.b y2),(.i y3),(.r y4)])
 .br (okR r0) (.leaf (0,[(.i y0),(.i (ql .i64 y1 1)),(.b (gB r0 3)),(.i (gI r0 4)),(.r (gR r0 5)),(.b y5),(.i y6),(.r y7),(.b (gB r0 0)),(.i (gI r0 1)),(.r (gR r0 2))])) .fail) .fail) .fail) (.leaf (1,[(.b y2),(.i y3),(.r y4),(.b y5),(.i y6),(.r y7),(.b y8),(.i y9),(.r y10)]))):=by kernel_rfl
theorem qkb(x0:Bool)(x1:Int)(x2:R)(x3:Bool)(x4:Int)(x5:R):km [.b x0,.i x1,.r x2,.b x3,.i x4,.r x5]=(let r0:TR:=(qg yL [(.i x4),(.i 0),(.b x0),(.i x1),(.r x2),(.b x3),(.i x4),(.r x5),(.b (not (beq x0 x3))),(.i 0),(.r (q3R 232 [(.i 0)]))])
 .br (okR r0) (.leaf (0,[(.b (gB r0 0)),(.i (gI r0 1)),(.r (gR r0 2)),(.b (gB r0 3)),(.i (gI r0 4)),(.r (gR r0 5)),(.b (gB r0 6)),(.i (gI r0 7)),(.r (gR r0 8))])) .fail):=by kernel_rfl
theorem qh0(x0:Bool)(x1:Int)(x2:R):zP [.b x0,.i x1,.r x2]=(let r0:TR:=(qM [(.b x0),(.i x1),(.r x2)])
 .br (okR r0) (let r1:TR:=(qO [(.s (gS r0 0))])
 .br (okR r1) (.br (ine (gI r1 0) 0) (.leaf (0,[(.s []),(.i (gI r1 0)),(.b (gB r0 1)),(.i (gI r0 2)),(.r (gR r0 3))])) (.leaf (0,[(.s (gS r0 0)),(.i 0),(.b (gB r0 1)),(.i (gI r0 2)),(.r (gR r0 3))]))) .fail) .fail):=by kernel_rfl
theorem qvS(x0:List UInt8)(x1:List UInt8):q51 [.s x0,.s x1]=(let r0:TR:=(zS [(.r [[(.s x0)],[(.s x1)]])])
 .br (okR r0) (.br (ine (gI r0 0) 0) (.leaf (0,[(.s []),(.i (gI r0 0))])) (let r1:TR:=(yW [(.s x0),(.s x1)])
 .br (okR r1) (.br (gB r1 2) (let r2:TR:=(kN [(.i (yM .i64 (gI r1 0) (gI r1 1)))])
 .br (okR r2) (.leaf (0,[(.s (gS r2 0)),(.i (gI r2 1))])) .fail) (let r2:TR:=(zz [(.s x0)])
 .br (okR r2) (let r3:TR:=(zz [(.s x1)])
 .br (okR r3) (let r4:TR:=(km [(.b (gB r2 0)),(.i (gI r2 1)),(.r (gR r2 2)),(.b (gB r3 0)),(.i (gI r3 1)),(.r (gR r3 2))])
 .br (okR r4) (let r5:TR:=(zP [(.b (gB r4 6)),(.i (gI r4 7)),(.r (gR r4 8))])
 .br (okR r5) (.leaf (0,[(.s (gS r5 0)),(.i (gI r5 1))])) .fail) .fail) .fail) .fail)) .fail)) .fail):=by kernel_rfl
theorem qbz(x0:List UInt8)(x1:List UInt8)(x2:Int):zL [.s x0,.s x1,.i x2]=(.br (ine x2 0) (.leaf (0,[(.s [48]),(.i x2)])) (let r0:TR:=(q51 [(.s x0),(.s x1)])
 .br (okR r0) (.br (ine (gI r0 1) 0) (.leaf (0,[(.s [48]),(.i (gI r0 1))])) (.leaf (0,[(.s (gS r0 0)),(.i (gI r0 1))]))) .fail)):=by kernel_rfl
theorem qaq(y0:List UInt8)(y1:R)(y2:Int)(y3:Int)(y4:Int):jU [.s y0,.r y1,.i y2,.i y3,.i y4]=(.br (ilt y3 y2) (.br (inb y3 (qh y1)) (let r0:TR:=(zL [(.s y0),(.s (cS y1 y3 0)),(.i y4)])
 .br (okR r0) (.leaf (0,[(.s (gS r0 0)),(.r y1),(.i y2),(.i (ql .i64 y3 1)),(.i (gI r0 1))])) .fail) .fail) (.leaf (1,[(.s y0),(.i y4)]))):=by kernel_rfl
theorem qmM(x0:R)(x1:Int):qf [.r x0,.i x1]=(let r0:TR:=(qg jU [(.s [49]),(.r x0),(.i (qh x0)),(.i 0),(.i x1)])
 .br (okR r0) (.leaf (0,[(.s (gS r0 0)),(.i (gI r0 1))])) .fail):=by kernel_rfl
theorem ql5(x0:Bool)(x1:Int)(x2:R)(x3:Bool)(x4:Int)(x5:R):wo [.b x0,.i x1,.r x2,.b x3,.i x4,.r x5]=(.br (beq x0 x3) (let r0:TR:=(qL [(.i 1),(.i 0),(.b x0),(.i x1),(.r x2),(.b x3),(.i x4),(.r x5)])
 .br (okR r0) (.leaf (0,[(.b (gB r0 0)),(.i (gI r0 1)),(.r (gR r0 2)),(.b (gB r0 3)),(.i (gI r0 4)),(.r (gR r0 5))])) .fail) (let r0:TR:=(zG [(.b x0),(.i x1),(.r x2),(.b x3),(.i x4),(.r x5)])
 .br (okR r0) (.br (ile 0 (gI r0 0)) (let r1:TR:=(qL [(.i (-1)),(.i 0),(.b (gB r0 1)),(.i (gI r0 2)),(.r (gR r0 3)),(.b (gB r0 4)),(.i (gI r0 5)),(.r (gR r0 6))])
 .br (okR r1) (.leaf (0,[(.b (gB r1 0)),(.i (gI r1 1)),(.r (gR r1 2)),(.b (gB r1 3)),(.i (gI r1 4)),(.r (gR r1 5))])) .fail) (let r1:TR:=(qL [(.i (-1)),(.i 0),(.b (gB r0 4)),(.i (gI r0 5)),(.r (gR r0 6)),(.b (gB r0 1)),(.i (gI r0 2)),(.r (gR r0 3))])
 .br (okR r1) (.leaf (0,[(.b (gB r1 0)),(.i (gI r1 1)),(.r (gR r1 2)),(.b (gB r0 4)),(.i (gI r0 5)),(.r (gR r0 6))])) .fail)) .fail)):=by kernel_rfl
theorem qd4(y0:R)(y1:Int)(y2:Int)(y3:Bool)(y4:Int)(y5:R):q5w [.r y0,.i y1,.i y2,.b y3,.i y4,.r y5]=(.br (ilt y2 y1) (.br (inb y2 (qh y0)) (let r0:TR:=(zz [(.s (cS y0 y2 0))])
 .br (okR r0) (let r1:TR:=(wo [(.b y3),(.i y4),(.r y5),(.b (gB r0 0)),(.i (gI r0 1)),(.r (gR r0 2))])
 .br (okR r1) (.leaf (0,[(.r y0),(.i y1),(.i (ql .i64 y2 1)),(.b (gB r1 0)),(.i (gI r1 1)),(.r (gR r1 2))])) .fail) .fail) .fail) (.leaf (1,[(.b y3),(.i y4),(.r y5)]))):=by kernel_rfl
theorem quW(x0:R):qat [.r x0]=(let r0:TR:=(qg q5w [(.r x0),(.i (qh x0)),(.i 0),(.b false),(.i 0),(.r (q3R 232 [(.i 0)]))])
 .br (okR r0) (let r1:TR:=(zP [(.b (gB r0 0)),(.i (gI r0 1)),(.r (gR r0 2))])
 .br (okR r1) (.leaf (0,[(.s (gS r1 0)),(.i (gI r1 1))])) .fail) .fail):=by kernel_rfl
theorem qwj(x0:List UInt8)(x1:List UInt8):q2q [.s x0,.s x1]=(let r0:TR:=(zS [(.r [[(.s x0)],[(.s x1)]])])
 .br (okR r0) (.br (ine (gI r0 0) 0) (.leaf (0,[(.s []),(.i (gI r0 0))])) (let r1:TR:=(yW [(.s x0),(.s x1)])
 .br (okR r1) (.br (gB r1 2) (let r2:TR:=(kN [(.i (ql .i64 (gI r1 0) (gI r1 1)))])
 .br (okR r2) (.leaf (0,[(.s (gS r2 0)),(.i (gI r2 1))])) .fail) (let r2:TR:=(qat [(.r [[(.s x0)],[(.s x1)]])])
 .br (okR r2) (.leaf (0,[(.s (gS r2 0)),(.i (gI r2 1))])) .fail)) .fail)) .fail):=by kernel_rfl
theorem qmn(x0:List UInt8):q1E [.s x0]=(let r0:TR:=(ub [(.s x0)])
 .br (okR r0) (.br (ieq (gI r0 0) 0) (.leaf (0,[(.s x0)])) (.br (ieq (gI r0 0) 1) (.br (ile ((qu [45])+(qu x0)) 140737488355328) (.leaf (0,[(.s (qdh [45] x0))])) .fail) (.br (q6A (qu x0) (qu x0)) (.br (q6A 1 (qu x0)) (.leaf (0,[(.s (qcK x0 1 (qu x0)))])) .fail) .fail))) .fail):=by kernel_rfl
theorem quI(x0:List UInt8)(x1:List UInt8):q72 [.s x0,.s x1]=(let r0:TR:=(zS [(.r [[(.s x0)],[(.s x1)]])])
 .br (okR r0) (.br (ine (gI r0 0) 0) (.leaf (0,[(.s []),(.i (gI r0 0))])) (let r1:TR:=(q1E [(.s x1)])
 .br (okR r1) (let r2:TR:=(q2q [(.s x0),(.s (gS r1 0))])
 .br (okR r2) (.leaf (0,[(.s (gS r2 0)),(.i (gI r2 1))])) .fail) .fail)) .fail):=by kernel_rfl
theorem qbE(x0:List UInt8)(x1:List UInt8)(x2:Int):wK [.s x0,.s x1,.i x2]=(.br (ine x2 0) (.leaf (0,[(.s [48]),(.i x2)])) (let r0:TR:=(q72 [(.s x0),(.s x1)])
 .br (okR r0) (.br (ine (gI r0 1) 0) (.leaf (0,[(.s [48]),(.i (gI r0 1))])) (.leaf (0,[(.s (gS r0 0)),(.i (gI r0 1))]))) .fail)):=by kernel_rfl
theorem qmS(x0:List UInt8)(x1:List UInt8)(x2:Int):zr [.s x0,.s x1,.i x2]=(let r0:TR:=(wK [(.s x0),(.s x1),(.i x2)])
 .br (okR r0) (.leaf (0,[(.s (gS r0 0)),(.i (gI r0 1))])) .fail):=by kernel_rfl
theorem qrj(x0:List UInt8)(x1:List UInt8)(x2:List UInt8)(x3:List UInt8)(x4:Int):q3q [.s x0,.s x1,.s x2,.s x3,.i x4]=(let r0:TR:=(qf [(.r [[(.s x0)],[(.s x3)]]),(.i x4)])
 .br (okR r0) (let r1:TR:=(qf [(.r [[(.s x2)],[(.s x1)]]),(.i (gI r0 1))])
 .br (okR r1) (let r2:TR:=(zr [(.s (gS r0 0)),(.s (gS r1 0)),(.i (gI r1 1))])
 .br (okR r2) (let r3:TR:=(qf [(.r [[(.s x1)],[(.s x3)]]),(.i (gI r2 1))])
 .br (okR r3) (.leaf (0,[(.s (gS r2 0)),(.s (gS r3 0)),(.i (gI r3 1))])) .fail) .fail) .fail) .fail):=by kernel_rfl
theorem qid(x0:List UInt8)(x1:List UInt8):uz [.s x0,.s x1]=(let r0:TR:=(qI [(.s x0),(.s x1)])
 .br (okR r0) (.leaf (0,[(.b (gB r0 0))])) .fail):=by kernel_rfl
theorem qpy(x0:List UInt8)(x1:List UInt8):q1R [.s x0,.s x1]=(.br (seq x1 [49]) (.leaf (0,[(.s x0)])) (.br (ile ((qu x0)+(qu [47])) 140737488355328) (.br (ile ((qu (qdh x0 [47]))+(qu x1)) 140737488355328) (.leaf (0,[(.s (qdh (qdh x0 [47]) x1))])) .fail) .fail)):=by kernel_rfl
theorem qqP(x0:List UInt8)(x1:List UInt8):q4o [.s x0,.s x1]=(let r0:TR:=(zS [(.r [[(.s x0)],[(.s x1)]])])
 .br (okR r0) (.br (ine (gI r0 0) 0) (.leaf (0,[(.s []),(.s []),(.i (gI r0 0))])) (.br (seq x1 [48]) (.leaf (0,[(.s []),(.s []),(.i 10)])) (let r1:TR:=(yW [(.s x0),(.s x1)])
 .br (okR r1) (.br (gB r1 2) (.br (ine (gI r1 1) 0) (.br (ine (gI r1 1) 0) (.br (ine (q6E (gI r1 0) (gI r1 1)) 0) (.br (not (beq (ilt (q6E (gI r1 0) (gI r1 1)) 0) (ilt (gI r1 1) 0))) (let r2:TR:=(zt [(.i (qv .i64 (yY .i64 (gI r1 0) (gI r1 1)) 1))])
 .br (okR r2) (let r3:TR:=(zt [(.i (ql .i64 (q6E (gI r1 0) (gI r1 1)) (gI r1 1)))])
 .br (okR r3) (.leaf (0,[(.s (gS r2 0)),(.s (gS r3 0)),(.i 0)])) .fail) .fail) (let r2:TR:=(zt [(.i (yY .i64 (gI r1 0) (gI r1 1)))])
 .br (okR r2) (let r3:TR:=(zt [(.i (q6E (gI r1 0) (gI r1 1)))])
 .br (okR r3) (.leaf (0,[(.s (gS r2 0)),(.s (gS r3 0)),(.i 0)])) .fail) .fail)) (let r2:TR:=(zt [(.i (yY .i64 (gI r1 0) (gI r1 1)))])
 .br (okR r2) (let r3:TR:=(zt [(.i (q6E (gI r1 0) (gI r1 1)))])
 .br (okR r3) (.leaf (0,[(.s (gS r2 0)),(.s (gS r3 0)),(.i 0)])) .fail) .fail)) .fail) .fail) (let r2:TR:=(zz [(.s x0)])
 .br (okR r2) (let r3:TR:=(zz [(.s x1)])
 .br (okR r3) (let r4:TR:=(wO [(.b (gB r2 0)),(.i (gI r2 1)),(.r (gR r2 2)),(.b (gB r3 0)),(.i (gI r3 1)),(.r (gR r3 2))])
 .br (okR r4) (.br (ilt 0 (gI r4 10)) (.br (not (beq (gB r4 0) (gB r4 3))) (let r5:TR:=(wo [(.b true),(.i (gI r4 7)),(.r (gR r4 8)),(.b true),(.i 1),(.r (qec (q3R 232 [(.i 0)]) 0 0 [(.i 1)]))])
 .br (okR r5) (let r6:TR:=(wo [(.b (gB r4 0)),(.i (gI r4 10)),(.r (gR r4 11)),(.b (gB r4 3)),(.i (gI r4 4)),(.r (gR r4 5))])
 .br (okR r6) (let r7:TR:=(qM [(.b (gB r5 0)),(.i (gI r5 1)),(.r (gR r5 2))])
 .br (okR r7) (let r8:TR:=(qM [(.b (gB r6 0)),(.i (gI r6 1)),(.r (gR r6 2))])
 .br (okR r8) (.leaf (0,[(.s (gS r7 0)),(.s (gS r8 0)),(.i 0)])) .fail) .fail) .fail) .fail) (let r5:TR:=(qM [(.b (not (beq (gB r4 0) (gB r4 3)))),(.i (gI r4 7)),(.r (gR r4 8))])
 .br (okR r5) (let r6:TR:=(qM [(.b (gB r4 0)),(.i (gI r4 10)),(.r (gR r4 11))])
 .br (okR r6) (.leaf (0,[(.s (gS r5 0)),(.s (gS r6 0)),(.i 0)])) .fail) .fail)) (let r5:TR:=(qM [(.b (not (beq (gB r4 0) (gB r4 3)))),(.i (gI r4 7)),(.r (gR r4 8))])
 .br (okR r5) (let r6:TR:=(qM [(.b (gB r4 0)),(.i (gI r4 10)),(.r (gR r4 11))])
 .br (okR r6) (.leaf (0,[(.s (gS r5 0)),(.s (gS r6 0)),(.i 0)])) .fail) .fail)) .fail) .fail) .fail)) .fail))) .fail):=by kernel_rfl
theorem qwn(x0:List UInt8)(x1:List UInt8):q74 [.s x0,.s x1]=(let r0:TR:=(q4o [(.s x0),(.s x1)])
 .br (okR r0) (.br (ine (gI r0 2) 0) (.leaf (0,[(.s []),(.i (gI r0 2))])) (let r1:TR:=(qO [(.s (gS r0 0))])
 .br (okR r1) (.br (ine (gI r1 0) 0) (.leaf (0,[(.s []),(.i (gI r1 0))])) (.leaf (0,[(.s (gS r0 0)),(.i 0)]))) .fail)) .fail):=by kernel_rfl
theorem qbx(x0:List UInt8)(x1:List UInt8)(x2:Int):wJ [.s x0,.s x1,.i x2]=(.br (ine x2 0) (.leaf (0,[(.s [48]),(.i x2)])) (let r0:TR:=(q2A [(.s x0),(.s x1)])
 .br (okR r0) (.br (ine (gI r0 1) 0) (.leaf (0,[(.s [48]),(.i (gI r0 1))])) (.leaf (0,[(.s (gS r0 0)),(.i (gI r0 1))]))) .fail)):=by kernel_rfl
theorem qbD(x0:List UInt8)(x1:List UInt8)(x2:Int):qV [.s x0,.s x1,.i x2]=(.br (ine x2 0) (.leaf (0,[(.s [48]),(.i x2)])) (let r0:TR:=(q74 [(.s x0),(.s x1)])
 .br (okR r0) (.br (ine (gI r0 1) 0) (.leaf (0,[(.s [48]),(.i (gI r0 1))])) (.leaf (0,[(.s (gS r0 0)),(.i (gI r0 1))]))) .fail)):=by kernel_rfl
theorem qiq(x0:List UInt8)(x1:List UInt8)(x2:Int):qE [.s x0,.s x1,.i x2]=(let r0:TR:=(wJ [(.s x0),(.s x1),(.i x2)])
 .br (okR r0) (let r1:TR:=(uz [(.s x1),(.s [45])])
 .br (okR r1) (.br (gB r1 0) (let r2:TR:=(zr [(.s [48]),(.s (gS r0 0)),(.i (gI r0 1))])
 .br (okR r2) (.br (ine (gI r2 1) 0) (.leaf (0,[(.s []),(.i (gI r2 1))])) (let r3:TR:=(qV [(.s x0),(.s (gS r2 0)),(.i (gI r2 1))])
 .br (okR r3) (let r4:TR:=(qV [(.s x1),(.s (gS r2 0)),(.i (gI r3 1))])
 .br (okR r4) (let r5:TR:=(q1R [(.s (gS r3 0)),(.s (gS r4 0))])
 .br (okR r5) (.leaf (0,[(.s (gS r5 0)),(.i (gI r4 1))])) .fail) .fail) .fail)) .fail) (.br (ine (gI r0 1) 0) (.leaf (0,[(.s []),(.i (gI r0 1))])) (let r2:TR:=(qV [(.s x0),(.s (gS r0 0)),(.i (gI r0 1))])
 .br (okR r2) (let r3:TR:=(qV [(.s x1),(.s (gS r0 0)),(.i (gI r2 1))])
 .br (okR r3) (let r4:TR:=(q1R [(.s (gS r2 0)),(.s (gS r3 0))])
 .br (okR r4) (.leaf (0,[(.s (gS r4 0)),(.i (gI r3 1))])) .fail) .fail) .fail))) .fail) .fail):=by kernel_rfl
theorem qdj(y0:R)(y1:Int)(y2:Int):q1H [.r y0,.i y1,.i y2]=(.br (ilt y2 y1) (.br (inb y2 (qh y0)) (let r0:TR:=(vH [(.s (cS y0 y2 0))])
 .br (okR r0) (.br (ine (gI r0 0) 0) (.leaf (2,[(.i (gI r0 0))])) (.leaf (0,[(.r y0),(.i y1),(.i (ql .i64 y2 1))]))) .fail) .fail) (.leaf (1,[]))):=by kernel_rfl
theorem qpp(x0:R):qW [.r x0]=(let r0:TR:=(qg q1H [(.r x0),(.i (qh x0)),(.i 0)])
 .br (okR r0) (.br (jIs r0 0) (.leaf (0,[(.i 0)])) (.leaf (0,[(.i (gI r0 0))]))) .fail):=by kernel_rfl
theorem qd5(x0:List UInt8)(x1:List UInt8):vb [.s x0,.s x1]=(let r0:TR:=(qW [(.r [[(.s x0)],[(.s x1)]])])
 .br (okR r0) (.br (ine (gI r0 0) 0) (.leaf (0,[(.s []),(.i (gI r0 0))])) (let r1:TR:=(qP [(.s x0)])
 .br (okR r1) (let r2:TR:=(qP [(.s x1)])
 .br (okR r2) (let r3:TR:=(q3q [(.s (gS r1 0)),(.s (gS r1 1)),(.s (gS r2 0)),(.s (gS r2 1)),(.i 0)])
 .br (okR r3) (.br (ine (gI r3 2) 0) (.leaf (0,[(.s []),(.i (gI r3 2))])) (.br (seq (gS r3 1) [48]) (.leaf (0,[(.s []),(.i 10)])) (let r4:TR:=(qE [(.s (gS r3 0)),(.s (gS r3 1)),(.i (gI r3 2))])
 .br (okR r4) (.leaf (0,[(.s (gS r4 0)),(.i (gI r4 1))])) .fail))) .fail) .fail) .fail)) .fail):=by kernel_rfl
theorem qwg(x0:List UInt8)(x1:List UInt8):q6N [.s x0,.s x1]=(let r0:TR:=(vb [(.s x0),(.s x1)])
 .br (okR r0) (.leaf (0,[(.s (gS r0 0)),(.i (gI r0 1))])) .fail):=by kernel_rfl
theorem qby(x0:List UInt8)(x1:List UInt8)(x2:Int):wM [.s x0,.s x1,.i x2]=(.br (ine x2 0) (.leaf (0,[(.s [48]),(.i x2)])) (let r0:TR:=(q6N [(.s x0),(.s x1)])
 .br (okR r0) (.br (ine (gI r0 1) 0) (.leaf (0,[(.s [48]),(.i (gI r0 1))])) (.leaf (0,[(.s (gS r0 0)),(.i (gI r0 1))]))) .fail)):=by kernel_rfl
theorem qmN(x0:List UInt8)(x1:List UInt8)(x2:Int):zf [.s x0,.s x1,.i x2]=(let r0:TR:=(wM [(.s x0),(.s x1),(.i x2)])
 .br (okR r0) (.leaf (0,[(.s (gS r0 0)),(.i (gI r0 1))])) .fail):=by kernel_rfl
theorem qkn(x0:List UInt8)(x1:List UInt8)(x2:List UInt8)(x3:List UInt8)(x4:Int):jk [.s x0,.s x1,.s x2,.s x3,.i x4]=(let r0:TR:=(zf [(.s x0),(.s x2),(.i x4)])
 .br (okR r0) (let r1:TR:=(zf [(.s x1),(.s x3),(.i (gI r0 1))])
 .br (okR r1) (.leaf (0,[(.s (gS r0 0)),(.s (gS r1 0)),(.i (gI r1 1))])) .fail) .fail):=by kernel_rfl
theorem qbA(x0:List UInt8)(x1:List UInt8)(x2:Int):wL [.s x0,.s x1,.i x2]=(.br (ine x2 0) (.leaf (0,[(.s [48]),(.i x2)])) (let r0:TR:=(q2q [(.s x0),(.s x1)])
 .br (okR r0) (.br (ine (gI r0 1) 0) (.leaf (0,[(.s [48]),(.i (gI r0 1))])) (.leaf (0,[(.s (gS r0 0)),(.i (gI r0 1))]))) .fail)):=by kernel_rfl
theorem qma(x0:List UInt8)(x1:List UInt8)(x2:Int):yv [.s x0,.s x1,.i x2]=(let r0:TR:=(wL [(.s x0),(.s x1),(.i x2)])
 .br (okR r0) (.leaf (0,[(.s (gS r0 0)),(.i (gI r0 1))])) .fail):=by kernel_rfl
theorem qrB(x0:List UInt8)(x1:List UInt8)(x2:List UInt8)(x3:List UInt8)(x4:Int):q3d [.s x0,.s x1,.s x2,.s x3,.i x4]=(let r0:TR:=(qf [(.r [[(.s x0)],[(.s x3)]]),(.i x4)])
 .br (okR r0) (let r1:TR:=(qf [(.r [[(.s x2)],[(.s x1)]]),(.i (gI r0 1))])
 .br (okR r1) (let r2:TR:=(yv [(.s (gS r0 0)),(.s (gS r1 0)),(.i (gI r1 1))])
 .br (okR r2) (let r3:TR:=(qf [(.r [[(.s x1)],[(.s x3)]]),(.i (gI r2 1))])
 .br (okR r3) (.leaf (0,[(.s (gS r2 0)),(.s (gS r3 0)),(.i (gI r3 1))])) .fail) .fail) .fail) .fail):=by kernel_rfl
theorem qd9(x0:List UInt8)(x1:List UInt8):vo [.s x0,.s x1]=(let r0:TR:=(qW [(.r [[(.s x0)],[(.s x1)]])])
 .br (okR r0) (.br (ine (gI r0 0) 0) (.leaf (0,[(.s []),(.i (gI r0 0))])) (let r1:TR:=(qP [(.s x0)])
 .br (okR r1) (let r2:TR:=(qP [(.s x1)])
 .br (okR r2) (let r3:TR:=(q3d [(.s (gS r1 0)),(.s (gS r1 1)),(.s (gS r2 0)),(.s (gS r2 1)),(.i 0)])
 .br (okR r3) (.br (ine (gI r3 2) 0) (.leaf (0,[(.s []),(.i (gI r3 2))])) (.br (seq (gS r3 1) [48]) (.leaf (0,[(.s []),(.i 10)])) (let r4:TR:=(qE [(.s (gS r3 0)),(.s (gS r3 1)),(.i (gI r3 2))])
 .br (okR r4) (.leaf (0,[(.s (gS r4 0)),(.i (gI r4 1))])) .fail))) .fail) .fail) .fail)) .fail):=by kernel_rfl
theorem qvZ(x0:List UInt8)(x1:List UInt8):q6S [.s x0,.s x1]=(let r0:TR:=(vo [(.s x0),(.s x1)])
 .br (okR r0) (.leaf (0,[(.s (gS r0 0)),(.i (gI r0 1))])) .fail):=by kernel_rfl
theorem qbG(x0:List UInt8)(x1:List UInt8)(x2:Int):wG [.s x0,.s x1,.i x2]=(.br (ine x2 0) (.leaf (0,[(.s [48]),(.i x2)])) (let r0:TR:=(q6S [(.s x0),(.s x1)])
 .br (okR r0) (.br (ine (gI r0 1) 0) (.leaf (0,[(.s [48]),(.i (gI r0 1))])) (.leaf (0,[(.s (gS r0 0)),(.i (gI r0 1))]))) .fail)):=by kernel_rfl
theorem qmz(x0:List UInt8)(x1:List UInt8)(x2:Int):zI [.s x0,.s x1,.i x2]=(let r0:TR:=(wG [(.s x0),(.s x1),(.i x2)])
 .br (okR r0) (.leaf (0,[(.s (gS r0 0)),(.i (gI r0 1))])) .fail):=by kernel_rfl
theorem qrv(x0:List UInt8)(x1:List UInt8)(x2:List UInt8)(x3:List UInt8)(x4:Int):q3u [.s x0,.s x1,.s x2,.s x3,.i x4]=(let r0:TR:=(qf [(.r [[(.s x0)],[(.s x2)]]),(.i x4)])
 .br (okR r0) (let r1:TR:=(qf [(.r [[(.s x1)],[(.s x3)]]),(.i (gI r0 1))])
 .br (okR r1) (.leaf (0,[(.s (gS r0 0)),(.s (gS r1 0)),(.i (gI r1 1))])) .fail) .fail):=by kernel_rfl
theorem qcy(x0:List UInt8)(x1:List UInt8):vn [.s x0,.s x1]=(let r0:TR:=(qW [(.r [[(.s x0)],[(.s x1)]])])
 .br (okR r0) (.br (ine (gI r0 0) 0) (.leaf (0,[(.s []),(.i (gI r0 0))])) (let r1:TR:=(qP [(.s x0)])
 .br (okR r1) (let r2:TR:=(qP [(.s x1)])
 .br (okR r2) (let r3:TR:=(q3u [(.s (gS r1 0)),(.s (gS r1 1)),(.s (gS r2 0)),(.s (gS r2 1)),(.i 0)])
 .br (okR r3) (.br (ine (gI r3 2) 0) (.leaf (0,[(.s []),(.i (gI r3 2))])) (.br (seq (gS r3 1) [48]) (.leaf (0,[(.s []),(.i 10)])) (let r4:TR:=(qE [(.s (gS r3 0)),(.s (gS r3 1)),(.i (gI r3 2))])
 .br (okR r4) (.leaf (0,[(.s (gS r4 0)),(.i (gI r4 1))])) .fail))) .fail) .fail) .fail)) .fail):=by kernel_rfl
theorem qvQ(x0:List UInt8)(x1:List UInt8):q14 [.s x0,.s x1]=(let r0:TR:=(vn [(.s x0),(.s x1)])
 .br (okR r0) (.leaf (0,[(.s (gS r0 0)),(.i (gI r0 1))])) .fail):=by kernel_rfl
theorem qbC(x0:List UInt8)(x1:List UInt8)(x2:Int):wN [.s x0,.s x1,.i x2]=(.br (ine x2 0) (.leaf (0,[(.s [48]),(.i x2)])) (let r0:TR:=(q14 [(.s x0),(.s x1)])
 .br (okR r0) (.br (ine (gI r0 1) 0) (.leaf (0,[(.s [48]),(.i (gI r0 1))])) (.leaf (0,[(.s (gS r0 0)),(.i (gI r0 1))]))) .fail)):=by kernel_rfl
theorem qn5(x0:List UInt8)(x1:List UInt8)(x2:Int):qY [.s x0,.s x1,.i x2]=(let r0:TR:=(wN [(.s x0),(.s x1),(.i x2)])
 .br (okR r0) (.leaf (0,[(.s (gS r0 0)),(.i (gI r0 1))])) .fail):=by kernel_rfl
theorem qme(x0:List UInt8)(x1:List UInt8)(x2:List UInt8)(x3:List UInt8)(x4:Int):wV [.s x0,.s x1,.s x2,.s x3,.i x4]=(let r0:TR:=(qY [(.s x0),(.s x2),(.i x4)])
 .br (okR r0) (let r1:TR:=(qY [(.s x1),(.s x3),(.i (gI r0 1))])
 .br (okR r1) (let r2:TR:=(zI [(.s (gS r0 0)),(.s (gS r1 0)),(.i (gI r1 1))])
 .br (okR r2) (.leaf (0,[(.s (gS r2 0)),(.i (gI r2 1))])) .fail) .fail) .fail):=by kernel_rfl
theorem qro(x0:List UInt8)(x1:List UInt8)(x2:List UInt8)(x3:List UInt8)(x4:Int):q3o [.s x0,.s x1,.s x2,.s x3,.i x4]=(let r0:TR:=(qf [(.r [[(.s x0)],[(.s x3)]]),(.i x4)])
 .br (okR r0) (let r1:TR:=(qf [(.r [[(.s x1)],[(.s x2)]]),(.i (gI r0 1))])
 .br (okR r1) (.leaf (0,[(.s (gS r0 0)),(.s (gS r1 0)),(.i (gI r1 1))])) .fail) .fail):=by kernel_rfl
theorem qd1(x0:List UInt8)(x1:List UInt8):vl [.s x0,.s x1]=(let r0:TR:=(qW [(.r [[(.s x0)],[(.s x1)]])])
 .br (okR r0) (.br (ine (gI r0 0) 0) (.leaf (0,[(.s []),(.i (gI r0 0))])) (let r1:TR:=(qP [(.s x0)])
 .br (okR r1) (let r2:TR:=(qP [(.s x1)])
 .br (okR r2) (let r3:TR:=(q3o [(.s (gS r1 0)),(.s (gS r1 1)),(.s (gS r2 0)),(.s (gS r2 1)),(.i 0)])
 .br (okR r3) (.br (ine (gI r3 2) 0) (.leaf (0,[(.s []),(.i (gI r3 2))])) (.br (seq (gS r3 1) [48]) (.leaf (0,[(.s []),(.i 10)])) (let r4:TR:=(qE [(.s (gS r3 0)),(.s (gS r3 1)),(.i (gI r3 2))])
 .br (okR r4) (.leaf (0,[(.s (gS r4 0)),(.i (gI r4 1))])) .fail))) .fail) .fail) .fail)) .fail):=by kernel_rfl
theorem qw0(x0:List UInt8)(x1:List UInt8):q7d [.s x0,.s x1]=(let r0:TR:=(qW [(.r [[(.s x0)],[(.s x1)]])])
 .br (okR r0) (.br (ine (gI r0 0) 0) (.leaf (0,[(.s []),(.i (gI r0 0))])) (.br (seq x1 [48]) (.leaf (0,[(.s []),(.i 10)])) (let r1:TR:=(vl [(.s x0),(.s x1)])
 .br (okR r1) (.leaf (0,[(.s (gS r1 0)),(.i (gI r1 1))])) .fail))) .fail):=by kernel_rfl
theorem qbB(x0:List UInt8)(x1:List UInt8)(x2:Int):zO [.s x0,.s x1,.i x2]=(.br (ine x2 0) (.leaf (0,[(.s [48]),(.i x2)])) (let r0:TR:=(q7d [(.s x0),(.s x1)])
 .br (okR r0) (.br (ine (gI r0 1) 0) (.leaf (0,[(.s [48]),(.i (gI r0 1))])) (.leaf (0,[(.s (gS r0 0)),(.i (gI r0 1))]))) .fail)):=by kernel_rfl
theorem qjE(x0:R)(x1:Int)(x2:Int)(x3:Int)(x4:Int):vS [.r x0,.i x1,.i x2,.i x3,.i x4]=(.br (inb x1 (qh x0)) (.br (inb x2 (qh x0)) (.br (ieq x1 x2) (.leaf (0,[(.s (cS x0 x1 0)),(.s (cS x0 x1 1)),(.s [48]),(.s [48]),(.s [48]),(.b (ieq x3 0)),(.i x4)])) (let r0:TR:=(jk [(.s (cS x0 x2 0)),(.s (cS x0 x2 1)),(.s (cS x0 x1 0)),(.s (cS x0 x1 1)),(.i x4)])
 .br (okR r0) (let r1:TR:=(wV [(.s (gS r0 0)),(.s (gS r0 1)),(.s (gS r0 0)),(.s (gS r0 1)),(.i (gI r0 2))])
 .br (okR r1) (.br (seq (gS r1 0) [48]) (.leaf (0,[(.s []),(.s []),(.s []),(.s []),(.s []),(.b false),(.i (gI r1 1))])) (let r2:TR:=(zI [(.s (gS r1 0)),(.s (cS x0 x1 2)),(.i (gI r1 1))])
 .br (okR r2) (let r3:TR:=(zf [(.s (gS r2 0)),(.s (cS x0 x2 2)),(.i (gI r2 1))])
 .br (okR r3) (let r4:TR:=(qY [(.s [50]),(.s (gS r1 0)),(.i (gI r3 1))])
 .br (okR r4) (let r5:TR:=(zO [(.s (gS r3 0)),(.s (gS r4 0)),(.i (gI r4 1))])
 .br (okR r5) (let r6:TR:=(qY [(.s (gS r5 0)),(.s (gS r0 0)),(.i (gI r5 1))])
 .br (okR r6) (let r7:TR:=(zI [(.s (cS x0 x1 0)),(.s (gS r6 0)),(.i (gI r6 1))])
 .br (okR r7) (let r8:TR:=(qY [(.s (gS r5 0)),(.s (gS r0 1)),(.i (gI r7 1))])
 .br (okR r8) (let r9:TR:=(zI [(.s (cS x0 x1 1)),(.s (gS r8 0)),(.i (gI r8 1))])
 .br (okR r9) (let r10:TR:=(zf [(.s [48]),(.s (gS r0 1)),(.i (gI r9 1))])
 .br (okR r10) (let r11:TR:=(zO [(.s (cS x0 x1 2)),(.s (gS r1 0)),(.i (gI r10 1))])
 .br (okR r11) (let r12:TR:=(qY [(.s (gS r5 0)),(.s (gS r5 0)),(.i (gI r11 1))])
 .br (okR r12) (let r13:TR:=(zf [(.s (gS r11 0)),(.s (gS r12 0)),(.i (gI r12 1))])
 .br (okR r13) (.br (ilt x3 0) (let r14:TR:=(zf [(.s [48]),(.s (gS r0 0)),(.i (gI r13 1))])
 .br (okR r14) (.br (ieq (gI r14 1) 0) (.br (inb 0 (qu (gS r13 0))) (.br (ine (sat (gS r13 0) 0) 45) (.leaf (0,[(.s (gS r7 0)),(.s (gS r9 0)),(.s (gS r0 1)),(.s (gS r14 0)),(.s (gS r13 0)),(.b (beq (seq (gS r13 0) [48]) (ieq x3 0))),(.i (gI r14 1))])) (.leaf (0,[(.s (gS r7 0)),(.s (gS r9 0)),(.s (gS r0 1)),(.s (gS r14 0)),(.s (gS r13 0)),(.b false),(.i (gI r14 1))]))) .fail) (.leaf (0,[(.s (gS r7 0)),(.s (gS r9 0)),(.s (gS r0 1)),(.s (gS r14 0)),(.s (gS r13 0)),(.b false),(.i (gI r14 1))]))) .fail) (.br (ieq (gI r13 1) 0) (.br (inb 0 (qu (gS r13 0))) (.br (ine (sat (gS r13 0) 0) 45) (.leaf (0,[(.s (gS r7 0)),(.s (gS r9 0)),(.s (gS r10 0)),(.s (gS r0 0)),(.s (gS r13 0)),(.b (beq (seq (gS r13 0) [48]) (ieq x3 0))),(.i (gI r13 1))])) (.leaf (0,[(.s (gS r7 0)),(.s (gS r9 0)),(.s (gS r10 0)),(.s (gS r0 0)),(.s (gS r13 0)),(.b false),(.i (gI r13 1))]))) .fail) (.leaf (0,[(.s (gS r7 0)),(.s (gS r9 0)),(.s (gS r10 0)),(.s (gS r0 0)),(.s (gS r13 0)),(.b false),(.i (gI r13 1))])))) .fail) .fail) .fail) .fail) .fail) .fail) .fail) .fail) .fail) .fail) .fail) .fail)) .fail) .fail)) .fail) .fail):=by kernel_rfl
theorem qu4(x0:List UInt8):q7S [.s x0]=(let r0:TR:=(qO [(.s x0)])
 .br (okR r0) (.br (ine (gI r0 0) 0) (.leaf (0,[(.i 0),(.i (gI r0 0))])) (let r1:TR:=(ub [(.s x0)])
 .br (okR r1) (.leaf (0,[(.i (gI r1 0)),(.i 0)])) .fail)) .fail):=by kernel_rfl
theorem qlz(x0:List UInt8)(x1:Int):zu [.s x0,.i x1]=(.br (ine x1 0) (.leaf (0,[(.i 0),(.i x1)])) (let r0:TR:=(q7S [(.s x0)])
 .br (okR r0) (.leaf (0,[(.i (gI r0 0)),(.i (gI r0 1))])) .fail)):=by kernel_rfl
theorem qlU(x0:List UInt8)(x1:List UInt8)(x2:List UInt8)(x3:Int):un [.s x0,.s x1,.s x2,.i x3]=(let r0:TR:=(zu [(.s x0),(.i x3)])
 .br (okR r0) (let r1:TR:=(zu [(.s x1),(.i (gI r0 1))])
 .br (okR r1) (let r2:TR:=(zu [(.s x2),(.i (gI r1 1))])
 .br (okR r2) (.br (ile 0 (yM .i64 (gI r0 0) (yM .i64 (gI r1 0) (gI r2 0)))) (.br (ine (gI r0 0) 0) (.leaf (0,[(.i (gI r0 0)),(.i (gI r2 1))])) (.leaf (0,[(.i (yM .i64 (gI r1 0) (gI r2 0))),(.i (gI r2 1))]))) (let r3:TR:=(qf [(.r [[(.s x0)],[(.s x0)]]),(.i (gI r2 1))])
 .br (okR r3) (let r4:TR:=(qf [(.r [[(.s x1)],[(.s x1)],[(.s x2)]]),(.i (gI r3 1))])
 .br (okR r4) (let r5:TR:=(zr [(.s (gS r3 0)),(.s (gS r4 0)),(.i (gI r4 1))])
 .br (okR r5) (let r6:TR:=(zu [(.s (gS r5 0)),(.i (gI r5 1))])
 .br (okR r6) (.leaf (0,[(.i (yM .i64 (gI r0 0) (gI r6 0))),(.i (gI r6 1))])) .fail) .fail) .fail) .fail)) .fail) .fail) .fail):=by kernel_rfl
theorem qkg(x0:List UInt8)(x1:List UInt8)(x2:List UInt8)(x3:List UInt8)(x4:List UInt8):q0T [.s x0,.s x1,.s x2,.s x3,.s x4]=(let r0:TR:=(qW [(.r [[(.s x0)],[(.s x1)],[(.s x2)],[(.s x3)],[(.s x4)]])])
 .br (okR r0) (.br (ine (gI r0 0) 0) (.leaf (0,[(.i 0),(.i (gI r0 0))])) (.br (inb 0 (qu x2)) (.br (ieq (sat x2 0) 45) (.leaf (0,[(.i 0),(.i 2)])) (.br (inb 0 (qu x4)) (.br (ieq (sat x4 0) 45) (.leaf (0,[(.i 0),(.i 2)])) (let r1:TR:=(qP [(.s x0)])
 .br (okR r1) (let r2:TR:=(qP [(.s x1)])
 .br (okR r2) (let r3:TR:=(qP [(.s x2)])
 .br (okR r3) (let r4:TR:=(qP [(.s x3)])
 .br (okR r4) (let r5:TR:=(qP [(.s x4)])
 .br (okR r5) (let r6:TR:=(qf [(.r [[(.s (gS r1 0))],[(.s (gS r2 1))],[(.s (gS r3 1))],[(.s (gS r4 1))],[(.s (gS r5 1))]]),(.i 0)])
 .br (okR r6) (let r7:TR:=(qf [(.r [[(.s (gS r2 0))],[(.s (gS r1 1))],[(.s (gS r4 1))],[(.s (gS r5 1))]]),(.i (gI r6 1))])
 .br (okR r7) (let r8:TR:=(qf [(.r [[(.s (gS r3 0))],[(.s (gS r3 1))]]),(.i (gI r7 1))])
 .br (okR r8) (let r9:TR:=(qf [(.r [[(.s (gS r4 0))],[(.s (gS r1 1))],[(.s (gS r2 1))],[(.s (gS r3 1))]]),(.i (gI r8 1))])
 .br (okR r9) (let r10:TR:=(qf [(.r [[(.s (gS r5 0))],[(.s (gS r5 1))]]),(.i (gI r9 1))])
 .br (okR r10) (let r11:TR:=(un [(.s (gS r6 0)),(.s (gS r7 0)),(.s (gS r8 0)),(.i (gI r10 1))])
 .br (okR r11) (let r12:TR:=(zu [(.s (gS r9 0)),(.i (gI r11 1))])
 .br (okR r12) (let r13:TR:=(zu [(.s (gS r10 0)),(.i (gI r12 1))])
 .br (okR r13) (.br (ile 0 (yM .i64 (gI r11 0) (yM .i64 (gI r12 0) (gI r13 0)))) (.br (ieq (gI r11 0) 0) (.leaf (0,[(.i (yM .i64 (gI r12 0) (gI r13 0))),(.i (gI r13 1))])) (.leaf (0,[(.i (gI r11 0)),(.i (gI r13 1))]))) (let r14:TR:=(qf [(.r [[(.s (gS r6 0))],[(.s (gS r6 0))]]),(.i (gI r13 1))])
 .br (okR r14) (let r15:TR:=(qf [(.r [[(.s (gS r7 0))],[(.s (gS r7 0))],[(.s (gS r8 0))]]),(.i (gI r14 1))])
 .br (okR r15) (let r16:TR:=(yv [(.s (gS r14 0)),(.s (gS r15 0)),(.i (gI r15 1))])
 .br (okR r16) (let r17:TR:=(qf [(.r [[(.s (gS r9 0))],[(.s (gS r9 0))],[(.s (gS r10 0))]]),(.i (gI r16 1))])
 .br (okR r17) (let r18:TR:=(zr [(.s (gS r16 0)),(.s (gS r17 0)),(.i (gI r17 1))])
 .br (okR r18) (let r19:TR:=(qf [(.r [[(.s [50])],[(.s (gS r6 0))],[(.s (gS r7 0))]]),(.i (gI r18 1))])
 .br (okR r19) (let r20:TR:=(un [(.s (gS r18 0)),(.s (gS r19 0)),(.s (gS r8 0)),(.i (gI r19 1))])
 .br (okR r20) (.br (ine (gI r20 1) 0) (.leaf (0,[(.i 0),(.i (gI r20 1))])) (.leaf (0,[(.i (yM .i64 (gI r11 0) (gI r20 0))),(.i 0)]))) .fail) .fail) .fail) .fail) .fail) .fail) .fail)) .fail) .fail) .fail) .fail) .fail) .fail) .fail) .fail) .fail) .fail) .fail) .fail) .fail)) .fail)) .fail)) .fail):=by kernel_rfl
theorem qmL(x0:List UInt8)(x1:List UInt8)(x2:List UInt8):q1y [.s x0,.s x1,.s x2]=(let r0:TR:=(q0T [(.s x0),(.s x1),(.s x2),(.s [48]),(.s [48])])
 .br (okR r0) (.leaf (0,[(.i (gI r0 0)),(.i (gI r0 1))])) .fail):=by kernel_rfl
theorem qm2(x0:List UInt8)(x1:List UInt8)(x2:List UInt8)(x3:Int):q0I [.s x0,.s x1,.s x2,.i x3]=(.br (ine x3 0) (.leaf (0,[(.i 0),(.i x3)])) (let r0:TR:=(q1y [(.s x0),(.s x1),(.s x2)])
 .br (okR r0) (.leaf (0,[(.i (gI r0 0)),(.i (gI r0 1))])) .fail)):=by kernel_rfl
theorem qjs(x0:List UInt8)(x1:List UInt8)(x2:List UInt8)(x3:List UInt8)(x4:List UInt8)(x5:List UInt8)(x6:List UInt8)(x7:List UInt8)(x8:Int):yg [.s x0,.s x1,.s x2,.s x3,.s x4,.s x5,.s x6,.s x7,.i x8]=(let r0:TR:=(jk [(.s x3),(.s x4),(.s x0),(.s x1),(.i x8)])
 .br (okR r0) (let r1:TR:=(wV [(.s (gS r0 0)),(.s (gS r0 1)),(.s (gS r0 0)),(.s (gS r0 1)),(.i (gI r0 2))])
 .br (okR r1) (let r2:TR:=(wV [(.s x5),(.s x6),(.s x5),(.s x6),(.i (gI r1 1))])
 .br (okR r2) (let r3:TR:=(qY [(.s x7),(.s (gS r2 0)),(.i (gI r2 1))])
 .br (okR r3) (let r4:TR:=(zI [(.s (gS r1 0)),(.s (gS r3 0)),(.i (gI r3 1))])
 .br (okR r4) (let r5:TR:=(zf [(.s (gS r4 0)),(.s x2),(.i (gI r4 1))])
 .br (okR r5) (let r6:TR:=(wV [(.s (gS r0 0)),(.s (gS r0 1)),(.s x5),(.s x6),(.i (gI r5 1))])
 .br (okR r6) (let r7:TR:=(qY [(.s [50]),(.s (gS r6 0)),(.i (gI r6 1))])
 .br (okR r7) (let r8:TR:=(q0I [(.s (gS r5 0)),(.s (gS r7 0)),(.s x7),(.i (gI r7 1))])
 .br (okR r8) (.leaf (0,[(.b (ile (gI r8 0) 0)),(.i (gI r8 1))])) .fail) .fail) .fail) .fail) .fail) .fail) .fail) .fail) .fail):=by kernel_rfl
theorem uL(y0:R)(y1:Int)(y2:Int)(y3:R)(y4:R)(y5:R)(y6:Int)(y7:Int)(y8:Int)(y9:Bool)(y10:List UInt8)(y11:List UInt8)(y12:List UInt8)(y13:List UInt8)(y14:List UInt8)(y15:Bool)(y16:R)(y17:Int)(y18:Int)(y19:Int)(y20:List UInt8)(y21:List UInt8)(y22:List UInt8)(y23:List UInt8)(y24:List UInt8)(y25:Bool)(y26:List UInt8)(y27:List UInt8)(y28:List UInt8)(y29:List UInt8)(y30:List UInt8)(y31:Bool)(y32:Bool)(y33:R)(y34:Int)(y35:Int)(y36:Int)(y37:Int)(y38:List UInt8)(y39:List UInt8)(y40:List UInt8)(y41:List UInt8)(y42:List UInt8):wQ [.r y0,.i y1,.i y2,.r y3,.r y4,.r y5,.i y6,.i y7,.i y8,.b y9,.s y10,.s y11,.s y12,.s y13,.s y14,.b y15,.r y16,.i y17,.i y18,.i y19,.s y20,.s y21,.s y22,.s y23,.s y24,.b y25,.s y26,.s y27,.s y28,.s y29,.s y30,.b y31,.b y32,.r y33,.i y34,.i y35,.i y36,.i y37,.s y38,.s y39,.s y40,.s y41,.s y42]=(.br (ilt y2 y1) (.br (inb y2 (qh y0)) (let r0:TR:=(yg [(.s (cS y0 y2 0)),(.s (cS y0 y2 1)),(.s (cS y0 y2 2)),(.s y38),(.s y39),(.s y40),(.s y41),(.s y42),(.i y34)])
 .br (okR r0) (.br (not (gB r0 0)) (.leaf (2,[(.i y2),(.r y3),(.r y4),(.r y5),(.i y6),(.i y7),(.i y8),(.b y9),(.s y10),(.s y11),(.s y12),(.s y13),(.s y14),(.b y15),(.r y16),(.i y17),(.i y18),(.i y19),(.s y20),(.s y21),(.s y22),(.s y23),(.s y24),(.b y25),(.s y26),(.s y27),(.s y28),(.s y29),(.s y30),(.b y31),(.b y32),(.r y33),(.i (gI r0 1)),(.i y35),(.i y36),(.i y37),(.s y38),(.s y39),(.s y40),(.s y41),(.s y42)])) (.leaf (0,[(.r y0),(.i y1),(.i (ql .i64 y2 1)),(.r y3),(.r y4),(.r y5),(.i y6),(.i y7),(.i y8),(.b y9),(.s y10),(.s y11),(.s y12),(.s y13),(.s y14),(.b y15),(.r y16),(.i y17),(.i y18),(.i y19),(.s y20),(.s y21),(.s y22),(.s y23),(.s y24),(.b y25),(.s y26),(.s y27),(.s y28),(.s y29),(.s y30),(.b y31),(.b y32),(.r y33),(.i (gI r0 1)),(.i y35),(.i y36),(.i y37),(.s y38),(.s y39),(.s y40),(.s y41),(.s y42)]))) .fail) .fail) (.leaf (1,[(.r y3),(.r y4),(.r y5),(.i y6),(.i y7),(.i y8),(.b y9),(.s y10),(.s y11),(.s y12),(.s y13),(.s y14),(.b y15),(.r y16),(.i y17),(.i y18),(.i y19),(.s y20),(.s y21),(.s y22),(.s y23),(.s y24),(.b y25),(.s y26),(.s y27),(.s y28),(.s y29),(.s y30),(.b y31),(.b y32),(.r y33),(.i y34),(.i y35),(.i y36),(.i y37),(.s y38),(.s y39),(.s y40),(.s y41),(.s y42)]))):=by kernel_rfl
theorem qih(x0:R)(x1:Int)(x2:Int)(x3:Int)(x4:Int):zm [.r x0,.i x1,.i x2,.i x3,.i x4]=(let r0:TR:=(vS [(.r x0),(.i x1),(.i x2),(.i x3),(.i x4)])
 .br (okR r0) (.br (gB r0 5) (let r1:TR:=(qg wQ [(.r x0),(.i (qh x0)),(.i 0),(.r x0),(.r x0),(.r x0),(.i x1),(.i x2),(.i x3),(.b (gB r0 5)),(.s (gS r0 0)),(.s (gS r0 1)),(.s (gS r0 2)),(.s (gS r0 3)),(.s (gS r0 4)),(.b (gB r0 5)),(.r x0),(.i x1),(.i x2),(.i x3),(.s (gS r0 0)),(.s (gS r0 1)),(.s (gS r0 2)),(.s (gS r0 3)),(.s (gS r0 4)),(.b (gB r0 5)),(.s (gS r0 0)),(.s (gS r0 1)),(.s (gS r0 2)),(.s (gS r0 3)),(.s (gS r0 4)),(.b (gB r0 5)),(.b (gB r0 5)),(.r x0),(.i (gI r0 6)),(.i x1),(.i x2),(.i x3),(.s (gS r0 0)),(.s (gS r0 1)),(.s (gS r0 2)),(.s (gS r0 3)),(.s (gS r0 4))])
 .br (okR r1) (.br (jIs r1 0) (.leaf (0,[(.b (ieq (gI r1 31) 0)),(.i (gI r1 31))])) (.br (not (ile 0 (gI r1 0))) (.leaf (0,[(.b (ieq (gI r1 32) 0)),(.i (gI r1 32))])) (.leaf (0,[(.b false),(.i (gI r1 32))])))) .fail) (.leaf (0,[(.b false),(.i (gI r0 6))]))) .fail):=by kernel_rfl
theorem q4m(y0:Int)(y1:Int)(y2:Int)(y3:R)(y4:Int)(y5:Int)(y6:Int)(y7:Bool)(y8:Int):vk [.i y0,.i y1,.i y2,.r y3,.i y4,.i y5,.i y6,.b y7,.i y8]=(.br (ilt y1 y0) (let r0:TR:=(zm [(.r y3),(.i y1),(.i y1),(.i 0),(.i y2)])
 .br (okR r0) (.br (gB r0 0) (.leaf (2,[(.i (gI r0 1)),(.r y3),(.i y1),(.i y1),(.i 0),(.b true),(.i y8)])) (.leaf (0,[(.i y0),(.i (ql .i64 y1 1)),(.i (gI r0 1)),(.r y3),(.i y4),(.i y5),(.i y6),(.b y7),(.i y8)]))) .fail) (.leaf (1,[(.i y2),(.r y3),(.i y4),(.i y5),(.i y6),(.b y7),(.i y8)]))):=by kernel_rfl
theorem q3D(y0:Int)(y1:Int)(y2:Int)(y3:Int)(y4:Int)(y5:Int)(y6:Int)(y7:R)(y8:Int)(y9:Int)(y10:Int)(y11:Bool)(y12:Int)(y13:R):wH [.i y0,.i y1,.i y2,.i y3,.i y4,.i y5,.i y6,.r y7,.i y8,.i y9,.i y10,.b y11,.i y12,.r y13]=(.br (ilt y5 y4) (.br (inb y5 (qh y13)) (let r0:TR:=(zm [(.r y7),(.i y0),(.i y1),(.i (cI y13 y5 0)),(.i y6)])
 .br (okR r0) (.br (gB r0 0) (.leaf (2,[(.i (gI r0 1)),(.r y7),(.i y0),(.i y1),(.i (cI y13 y5 0)),(.b true),(.i y12)])) (.leaf (0,[(.i y0),(.i y1),(.i y2),(.i y3),(.i y4),(.i (ql .i64 y5 1)),(.i (gI r0 1)),(.r y7),(.i y8),(.i y9),(.i y10),(.b y11),(.i y12),(.r y13)]))) .fail) .fail) (.leaf (1,[(.i y0),(.i y1),(.i y2),(.i y3),(.i y6),(.r y7),(.i y8),(.i y9),(.i y10),(.b y11),(.i y12)]))):=by kernel_rfl
theorem q3C(y0:Int)(y1:Int)(y2:Int)(y3:Int)(y4:Int)(y5:R)(y6:Int)(y7:Int)(y8:Int)(y9:Bool)(y10:Int):wP [.i y0,.i y1,.i y2,.i y3,.i y4,.r y5,.i y6,.i y7,.i y8,.b y9,.i y10]=(.br (ilt y1 y10) (let r0:TR:=(qg wH [(.i y0),(.i y1),(.i y2),(.i y3),(.i (qh [[(.i 0)],[(.i 1)],[(.i (-1))]])),(.i 0),(.i y4),(.r y5),(.i y6),(.i y7),(.i y8),(.b y9),(.i y10),(.r [[(.i 0)],[(.i 1)],[(.i (-1))]])])
 .br (okR r0) (.br (jIs r0 0) (.leaf (0,[(.i (gI r0 0)),(.i (ql .i64 (gI r0 1) 1)),(.i (gI r0 2)),(.i (gI r0 3)),(.i (gI r0 4)),(.r (gR r0 5)),(.i (gI r0 6)),(.i (gI r0 7)),(.i (gI r0 8)),(.b (gB r0 9)),(.i (gI r0 10))])) (.leaf (2,[(.i (gI r0 0)),(.r (gR r0 1)),(.i (gI r0 2)),(.i (gI r0 3)),(.i (gI r0 4)),(.b (gB r0 5)),(.i (gI r0 6))]))) .fail) (.leaf (1,[(.i y2),(.i y3),(.i y4),(.r y5),(.i y6),(.i y7),(.i y8),(.b y9),(.i y10)]))):=by kernel_rfl
theorem q4h(y0:Int)(y1:Int)(y2:Int)(y3:R)(y4:Int)(y5:Int)(y6:Int)(y7:Bool)(y8:Int):vr [.i y0,.i y1,.i y2,.r y3,.i y4,.i y5,.i y6,.b y7,.i y8]=(.br (ilt y1 y0) (let r0:TR:=(qg wP [(.i y1),(.i (ql .i64 y1 1)),(.i y0),(.i y1),(.i y2),(.r y3),(.i y4),(.i y5),(.i y6),(.b y7),(.i y8)])
 .br (okR r0) (.br (jIs r0 0) (.leaf (0,[(.i (gI r0 0)),(.i (ql .i64 (gI r0 1) 1)),(.i (gI r0 2)),(.r (gR r0 3)),(.i (gI r0 4)),(.i (gI r0 5)),(.i (gI r0 6)),(.b (gB r0 7)),(.i (gI r0 8))])) (.leaf (2,[(.i (gI r0 0)),(.r (gR r0 1)),(.i (gI r0 2)),(.i (gI r0 3)),(.i (gI r0 4)),(.b (gB r0 5)),(.i (gI r0 6))]))) .fail) (.leaf (1,[(.i y2),(.r y3),(.i y4),(.i y5),(.i y6),(.b y7),(.i y8)]))):=by kernel_rfl
theorem qjW(x0:R)(x1:Int):qG [.r x0,.i x1]=(let r0:TR:=(qg vk [(.i (qh x0)),(.i 0),(.i x1),(.r x0),(.i 0),(.i 0),(.i 0),(.b false),(.i (qh x0))])
 .br (okR r0) (.br (jIs r0 0) (let r1:TR:=(qg vr [(.i (gI r0 6)),(.i 0),(.i (gI r0 0)),(.r (gR r0 1)),(.i (gI r0 2)),(.i (gI r0 3)),(.i (gI r0 4)),(.b (gB r0 5)),(.i (gI r0 6))])
 .br (okR r1) (.br (jIs r1 0) (.leaf (0,[(.i 0),(.i 0),(.i 0),(.b false),(.i (gI r1 0))])) (.leaf (0,[(.i (gI r1 2)),(.i (gI r1 3)),(.i (gI r1 4)),(.b (gB r1 5)),(.i (gI r1 0))]))) .fail) (.leaf (0,[(.i (gI r0 2)),(.i (gI r0 3)),(.i (gI r0 4)),(.b (gB r0 5)),(.i (gI r0 0))]))) .fail):=by kernel_rfl
theorem qpo(x0:R):q4j [.r x0]=(let r0:TR:=(wc [(.r x0)])
 .br (okR r0) (.br (ine (gI r0 0) 0) (.leaf (0,[(.b false),(.i 0),(.i 0),(.i 0),(.i (gI r0 0))])) (let r1:TR:=(qG [(.r x0),(.i 0)])
 .br (okR r1) (.br (ine (gI r1 4) 0) (.leaf (0,[(.b false),(.i 0),(.i 0),(.i 0),(.i (gI r1 4))])) (.leaf (0,[(.b (gB r1 3)),(.i (gI r1 0)),(.i (gI r1 1)),(.i (gI r1 2)),(.i 0)]))) .fail)) .fail):=by kernel_rfl
theorem qgL(y0:List UInt8)(y1:List UInt8)(y2:Int)(y3:Int)(y4:R):q1Q [.s y0,.s y1,.i y2,.i y3,.r y4]=(.br (ilt y3 y2) (.br (inb y3 (qh y4)) (let r0:TR:=(qO [(.s (cS y4 y3 0))])
 .br (okR r0) (.br (ine (gI r0 0) 0) (.leaf (2,[(.s []),(.i (gI r0 0))])) (.leaf (0,[(.s y0),(.s y1),(.i y2),(.i (ql .i64 y3 1)),(.r y4)]))) .fail) .fail) (.leaf (1,[(.s y0),(.s y1)]))):=by kernel_rfl
theorem quh(x0:List UInt8)(x1:List UInt8):q7I [.s x0,.s x1]=(let r0:TR:=(qg q1Q [(.s x0),(.s x1),(.i (qh [[(.s x0)],[(.s x1)]])),(.i 0),(.r [[(.s x0)],[(.s x1)]])])
 .br (okR r0) (.br (jIs r0 0) (.br (seq (gS r0 1) [48]) (.leaf (0,[(.s []),(.i 10)])) (let r1:TR:=(qE [(.s (gS r0 0)),(.s (gS r0 1)),(.i 0)])
 .br (okR r1) (.br (ine (gI r1 1) 0) (.leaf (0,[(.s []),(.i (gI r1 1))])) (.leaf (0,[(.s (gS r1 0)),(.i 0)]))) .fail)) (.leaf (0,[(.s (gS r0 0)),(.i (gI r0 1))]))) .fail):=by kernel_rfl
theorem qwW(x0:Int)(x1:Int):qac [.i x0,.i x1]=(let r0:TR:=(zt [(.i x0)])
 .br (okR r0) (let r1:TR:=(zt [(.i x1)])
 .br (okR r1) (let r2:TR:=(q7I [(.s (gS r0 0)),(.s (gS r1 0))])
 .br (okR r2) (.leaf (0,[(.s (gS r2 0)),(.i (gI r2 1))])) .fail) .fail) .fail):=by kernel_rfl
theorem qrS(x0:Int):q1k [.i x0]=(.br (okR (zt [(.i x0)])) (.leaf (0,[(.s (gS (zt [(.i x0)]) 0))])) .fail):=by kernel_rfl
theorem qaL(y0:R)(y1:Int)(y2:Int)(y3:R)(y4:R)(y5:R):yk [.r y0,.i y1,.i y2,.r y3,.r y4,.r y5]=(.br (ilt y2 y1) (.br (inb y2 (qh y0)) (.br (inb y2 (qh y3)) (.br (inb y2 (qh y4)) (let r0:TR:=(qac [(.i (cI y0 y2 0)),(.i 2)])
 .br (okR r0) (let r1:TR:=(q14 [(.s (gS r0 0)),(.s (gS r0 0))])
 .br (okR r1) (let r2:TR:=(q1k [(.i (qv .i64 (cI y4 y2 0) (cI y3 y2 0)))])
 .br (okR r2) (let r3:TR:=(q1k [(.i (qv .i64 (cI y4 y2 1) (cI y3 y2 1)))])
 .br (okR r3) (.br (ile ((qh y5)+(qh [[(.s (gS r2 0)),(.s (gS r3 0)),(.s (gS r1 0))]])) 2932031007402) (.leaf (0,[(.r y0),(.i y1),(.i (ql .i64 y2 1)),(.r y3),(.r y4),(.r (q6B y5 [[(.s (gS r2 0)),(.s (gS r3 0)),(.s (gS r1 0))]]))])) .fail) .fail) .fail) .fail) .fail) .fail) .fail) .fail) (.leaf (1,[(.r y5)]))):=by kernel_rfl
theorem qmg(x0:R)(x1:R)(x2:R)(x3:R):yx [.r x0,.r x1,.r x2,.r x3]=(let r0:TR:=(zq [(.r x0),(.r x1),(.r x2),(.r x3)])
 .br (okR r0) (let r1:TR:=(qg yk [(.r (gR r0 0)),(.i (qh (gR r0 0))),(.i 0),(.r x2),(.r x3),(.r [])])
 .br (okR r1) (.leaf (0,[(.r (gR r1 0))])) .fail) .fail):=by kernel_rfl
theorem qil(x0:R)(x1:R)(x2:R)(x3:R):zl [.r x0,.r x1,.r x2,.r x3]=(let r0:TR:=(wi [(.r x0),(.r x1),(.r x2),(.r x3)])
 .br (okR r0) (.br (ine (gI r0 0) 0) (.leaf (0,[(.b false),(.i 0),(.i 0),(.i 0),(.i (gI r0 0))])) (let r1:TR:=(zq [(.r x0),(.r x1),(.r x2),(.r x3)])
 .br (okR r1) (let r2:TR:=(qk [(.r (gR r1 0))])
 .br (okR r2) (.br (ilt 0 (qh (gR r2 0))) (.leaf (0,[(.b false),(.i 0),(.i 0),(.i 0),(.i 0)])) (let r3:TR:=(yx [(.r x0),(.r x1),(.r x2),(.r x3)])
 .br (okR r3) (let r4:TR:=(q4j [(.r (gR r3 0))])
 .br (okR r4) (.br (ine (gI r4 4) 0) (.leaf (0,[(.b false),(.i 0),(.i 0),(.i 0),(.i (gI r4 4))])) (.br (not (gB r4 0)) (.leaf (0,[(.b false),(.i 0),(.i 0),(.i 0),(.i (gI r4 4))])) (.leaf (0,[(.b true),(.i (gI r4 1)),(.i (gI r4 2)),(.i (gI r4 3)),(.i 0)])))) .fail) .fail)) .fail) .fail)) .fail):=by kernel_rfl
theorem q0W(y0:Int)(y1:Int)(y2:Int)(y3:Int)(y4:Int)(y5:Int)(y6:Int)(y7:R)(y8:Int)(y9:Int)(y10:Int)(y11:R)(y12:Int)(y13:R)(y14:R):z8 [.i y0,.i y1,.i y2,.i y3,.i y4,.i y5,.i y6,.r y7,.i y8,.i y9,.i y10,.r y11,.i y12,.r y13,.r y14]=(.br (ilt y1 y0) (.br (inb y1 (qh y13)) (.br (inb (cI y13 y1 0) (qh y11)) (.br (ile ((qh y14)+(qh [[(.s (cS y11 (cI y13 y1 0) 0)),(.s (cS y11 (cI y13 y1 0) 1)),(.s (cS y11 (cI y13 y1 0) 2))]])) 2932031007402) (.leaf (0,[(.i y0),(.i (ql .i64 y1 1)),(.i y2),(.i y3),(.i y4),(.i y5),(.i y6),(.r y7),(.i y8),(.i y9),(.i y10),(.r y11),(.i y12),(.r y13),(.r (q6B y14 [[(.s (cS y11 (cI y13 y1 0) 0)),(.s (cS y11 (cI y13 y1 0) 1)),(.s (cS y11 (cI y13 y1 0) 2))]]))])) .fail) .fail) .fail) (.leaf (1,[(.i y2),(.i y3),(.i y4),(.i y5),(.i y6),(.r y7),(.i y8),(.i y9),(.i y10),(.r y11),(.i y12),(.r y13),(.r y14)]))):=by kernel_rfl
theorem q4k(y0:Int)(y1:Int)(y2:Int)(y3:Int)(y4:R)(y5:Int):vt [.i y0,.i y1,.i y2,.i y3,.r y4,.i y5]=(.br (ilt y1 (qh y4)) (let r0:TR:=(qg z8 [(.i (qh [[(.i y0)],[(.i y1)]])),(.i 0),(.i y0),(.i y1),(.i y2),(.i y3),(.i y1),(.r y4),(.i (qh y4)),(.i y0),(.i y1),(.r y4),(.i y5),(.r [[(.i y0)],[(.i y1)]]),(.r [])])
 .br (okR r0) (let r1:TR:=(qG [(.r (gR r0 12)),(.i (gI r0 10))])
 .br (okR r1) (.br (not (gB r1 3)) (.br (ieq (gI r1 4) 0) (.leaf (2,[(.i 0),(.r [[(.i (gI r0 0))],[(.i (gI r0 1))]])])) (.leaf (0,[(.i (gI r0 0)),(.i (ql .i64 (gI r0 1) 1)),(.i (gI r0 2)),(.i (gI r0 3)),(.r (gR r0 9)),(.i (gI r1 4))]))) (.leaf (0,[(.i (gI r0 0)),(.i (ql .i64 (gI r0 1) 1)),(.i (gI r0 2)),(.i (gI r0 3)),(.r (gR r0 9)),(.i (gI r1 4))]))) .fail) .fail) (.leaf (1,[(.i y2),(.i y3),(.r y4),(.i y5)]))):=by kernel_rfl
theorem q5c(y0:Int)(y1:Int)(y2:R)(y3:Int):vN [.i y0,.i y1,.r y2,.i y3]=(.br (ilt y1 y0) (let r0:TR:=(qg vt [(.i y1),(.i (ql .i64 y1 1)),(.i y0),(.i y1),(.r y2),(.i y3)])
 .br (okR r0) (.br (jIs r0 0) (.leaf (0,[(.i (gI r0 0)),(.i (ql .i64 (gI r0 1) 1)),(.r (gR r0 2)),(.i (gI r0 3))])) (.leaf (2,[(.i (gI r0 0)),(.r (gR r0 1))]))) .fail) (.leaf (1,[(.r y2),(.i y3)]))):=by kernel_rfl
theorem q0U(y0:Int)(y1:Int)(y2:Int)(y3:Int)(y4:Int)(y5:Int)(y6:Int)(y7:Int)(y8:R)(y9:Int)(y10:Int)(y11:Int)(y12:Int)(y13:R)(y14:Int)(y15:R)(y16:R):ze [.i y0,.i y1,.i y2,.i y3,.i y4,.i y5,.i y6,.i y7,.r y8,.i y9,.i y10,.i y11,.i y12,.r y13,.i y14,.r y15,.r y16]=(.br (ilt y1 y0) (.br (inb y1 (qh y15)) (.br (inb (cI y15 y1 0) (qh y13)) (.br (ile ((qh y16)+(qh [[(.s (cS y13 (cI y15 y1 0) 0)),(.s (cS y13 (cI y15 y1 0) 1)),(.s (cS y13 (cI y15 y1 0) 2))]])) 2932031007402) (.leaf (0,[(.i y0),(.i (ql .i64 y1 1)),(.i y2),(.i y3),(.i y4),(.i y5),(.i y6),(.i y7),(.r y8),(.i y9),(.i y10),(.i y11),(.i y12),(.r y13),(.i y14),(.r y15),(.r (q6B y16 [[(.s (cS y13 (cI y15 y1 0) 0)),(.s (cS y13 (cI y15 y1 0) 1)),(.s (cS y13 (cI y15 y1 0) 2))]]))])) .fail) .fail) .fail) (.leaf (1,[(.i y2),(.i y3),(.i y4),(.i y5),(.i y6),(.i y7),(.r y8),(.i y9),(.i y10),(.i y11),(.i y12),(.r y13),(.i y14),(.r y15),(.r y16)]))):=by kernel_rfl
theorem q47(y0:Int)(y1:Int)(y2:Int)(y3:Int)(y4:Int)(y5:R)(y6:Int):vw [.i y0,.i y1,.i y2,.i y3,.i y4,.r y5,.i y6]=(.br (ilt y2 (qh y5)) (let r0:TR:=(qg ze [(.i (qh [[(.i y0)],[(.i y1)],[(.i y2)]])),(.i 0),(.i y0),(.i y1),(.i y2),(.i y3),(.i y4),(.i y2),(.r y5),(.i (qh y5)),(.i y0),(.i y1),(.i y2),(.r y5),(.i y6),(.r [[(.i y0)],[(.i y1)],[(.i y2)]]),(.r [])])
 .br (okR r0) (let r1:TR:=(qG [(.r (gR r0 14)),(.i (gI r0 12))])
 .br (okR r1) (.br (not (gB r1 3)) (.br (ieq (gI r1 4) 0) (.leaf (2,[(.i 0),(.r [[(.i (gI r0 0))],[(.i (gI r0 1))],[(.i (gI r0 2))]])])) (.leaf (0,[(.i (gI r0 0)),(.i (gI r0 1)),(.i (ql .i64 (gI r0 2) 1)),(.i (gI r0 3)),(.i (gI r0 4)),(.r (gR r0 11)),(.i (gI r1 4))]))) (.leaf (0,[(.i (gI r0 0)),(.i (gI r0 1)),(.i (ql .i64 (gI r0 2) 1)),(.i (gI r0 3)),(.i (gI r0 4)),(.r (gR r0 11)),(.i (gI r1 4))]))) .fail) .fail) (.leaf (1,[(.i y0),(.i y1),(.i y3),(.i y4),(.r y5),(.i y6)]))):=by kernel_rfl
theorem q43(y0:Int)(y1:Int)(y2:Int)(y3:Int)(y4:R)(y5:Int):vq [.i y0,.i y1,.i y2,.i y3,.r y4,.i y5]=(.br (ilt y1 (qh y4)) (let r0:TR:=(qg vw [(.i y0),(.i y1),(.i (ql .i64 y1 1)),(.i y2),(.i y3),(.r y4),(.i y5)])
 .br (okR r0) (.br (jIs r0 0) (.leaf (0,[(.i (gI r0 0)),(.i (ql .i64 (gI r0 1) 1)),(.i (gI r0 2)),(.i (gI r0 3)),(.r (gR r0 4)),(.i (gI r0 5))])) (.leaf (2,[(.i (gI r0 0)),(.r (gR r0 1))]))) .fail) (.leaf (1,[(.i y2),(.i y3),(.r y4),(.i y5)]))):=by kernel_rfl
theorem q48(y0:Int)(y1:Int)(y2:R)(y3:Int):vj [.i y0,.i y1,.r y2,.i y3]=(.br (ilt y1 y0) (let r0:TR:=(qg vq [(.i y1),(.i (ql .i64 y1 1)),(.i y0),(.i y1),(.r y2),(.i y3)])
 .br (okR r0) (.br (jIs r0 0) (.leaf (0,[(.i (gI r0 0)),(.i (ql .i64 (gI r0 1) 1)),(.r (gR r0 2)),(.i (gI r0 3))])) (.leaf (2,[(.i (gI r0 0)),(.r (gR r0 1))]))) .fail) (.leaf (1,[(.i y3)]))):=by kernel_rfl
theorem qge(x0:R):jI [.r x0]=(let r0:TR:=(wc [(.r x0)])
 .br (okR r0) (.br (ine (gI r0 0) 0) (.leaf (0,[(.r []),(.i (gI r0 0))])) (let r1:TR:=(qg vN [(.i (qh x0)),(.i 0),(.r x0),(.i 0)])
 .br (okR r1) (.br (jIs r1 0) (let r2:TR:=(qg vj [(.i (qh (gR r1 0))),(.i 0),(.r (gR r1 0)),(.i (gI r1 1))])
 .br (okR r2) (.br (jIs r2 0) (.leaf (0,[(.r []),(.i (gI r2 0))])) (.leaf (0,[(.r (gR r2 1)),(.i (gI r2 0))]))) .fail) (.leaf (0,[(.r (gR r1 1)),(.i (gI r1 0))]))) .fail)) .fail):=by kernel_rfl
theorem qn6(x0:R)(x1:R)(x2:R)(x3:R):j6 [.r x0,.r x1,.r x2,.r x3]=(let r0:TR:=(wi [(.r x0),(.r x1),(.r x2),(.r x3)])
 .br (okR r0) (.br (ine (gI r0 0) 0) (.leaf (0,[(.r []),(.i (gI r0 0))])) (let r1:TR:=(zq [(.r x0),(.r x1),(.r x2),(.r x3)])
 .br (okR r1) (let r2:TR:=(qk [(.r (gR r1 0))])
 .br (okR r2) (.br (ilt 0 (qh (gR r2 0))) (.br (q6A 1 (qh (gR r2 0))) (.br (q6A 0 1) (.leaf (0,[(.r (qyo (gR r2 0) 0 1)),(.i 0)])) .fail) .fail) (let r3:TR:=(yx [(.r x0),(.r x1),(.r x2),(.r x3)])
 .br (okR r3) (let r4:TR:=(jI [(.r (gR r3 0))])
 .br (okR r4) (.leaf (0,[(.r (gR r4 0)),(.i (gI r4 1))])) .fail) .fail)) .fail) .fail)) .fail):=by kernel_rfl
theorem qjo(x0:Int):wA [.i x0]=(.br (ile (-100000) x0) (.leaf (0,[(.b (ile x0 100000))])) (.leaf (0,[(.b false)]))):=by kernel_rfl
theorem qkI(x0:Int)(x1:Int):uf [.i x0,.i x1]=(.br (okR (wA [(.i x0)])) (.br (not (gB (wA [(.i x0)]) 0)) (.leaf (0,[(.i 2)])) (.br (okR (wA [(.i x1)])) (.br (not (gB (wA [(.i x1)]) 0)) (.leaf (0,[(.i 2)])) (.br (ilt x1 x0) (.leaf (0,[(.i 9)])) (.leaf (0,[(.i 0)])))) .fail)) .fail):=by kernel_rfl
theorem q4n(y0:R)(y1:Int)(y2:Int):vg [.r y0,.i y1,.i y2]=(.br (ilt y2 y1) (.br (inb y2 (qh y0)) (let r0:TR:=(uf [(.i (cI y0 y2 0)),(.i (cI y0 y2 1))])
 .br (okR r0) (.br (ine (gI r0 0) 0) (.leaf (2,[(.i (gI r0 0))])) (.br (ilt (cI y0 y2 0) 1) (.leaf (2,[(.i 2)])) (.leaf (0,[(.r y0),(.i y1),(.i (ql .i64 y2 1))])))) .fail) .fail) (.leaf (1,[]))):=by kernel_rfl
theorem qfl(x0:R):wE [.r x0]=(.br (ieq (qh x0) 0) (.leaf (0,[(.i 13)])) (.br (ilt 16 (qh x0)) (.leaf (0,[(.i 5)])) (let r0:TR:=(qg vg [(.r x0),(.i (qh x0)),(.i 0)])
 .br (okR r0) (.br (jIs r0 0) (.leaf (0,[(.i 0)])) (.leaf (0,[(.i (gI r0 0))]))) .fail))):=by kernel_rfl
theorem q7Z(y0:R)(y1:Int)(y2:Int)(y3:Int)(y4:Int)(y5:Int)(y6:Int):vW [.r y0,.i y1,.i y2,.i y3,.i y4,.i y5,.i y6]=(.br (ilt y2 y1) (.br (inb y2 (qh y0)) (.leaf (0,[(.r y0),(.i y1),(.i (ql .i64 y2 1)),(.i y3),(.i y4),(.i (ql .i64 y5 (cI y0 y2 0))),(.i (ql .i64 y6 (cI y0 y2 1)))])) .fail) (.leaf (1,[(.i y3),(.i y4),(.i y5),(.i y6)]))):=by kernel_rfl
theorem qk5(x0:R):ke [.r x0]=(let r0:TR:=(wE [(.r x0)])
 .br (okR r0) (.br (ine (gI r0 0) 0) (.leaf (0,[(.i 0),(.i 0),(.i (gI r0 0))])) (let r1:TR:=(qg vW [(.r x0),(.i (qh x0)),(.i 0),(.i 0),(.i 0),(.i 0),(.i 0)])
 .br (okR r1) (.leaf (0,[(.i (gI r1 2)),(.i (gI r1 3)),(.i 0)])) .fail)) .fail):=by kernel_rfl
theorem qja(y0:Int)(y1:Int)(y2:R)(y3:R)(y4:R):q3t [.i y0,.i y1,.r y2,.r y3,.r y4]=(.br (ilt y1 y0) (.br (inb y1 (qh y2)) (.br (ile ((qh y3)+(qh [[(.i (cI y2 y1 0)),(.i 0),(.i 100),(.i 104),(.i 4),(.i 1),(.b false)]])) 2513169434916) (.br (ile ((qh y4)+(qh [[(.i (cI y2 y1 0)),(.i 0),(.i 90),(.i 92),(.i 4),(.i 1),(.b true)]])) 2513169434916) (.leaf (0,[(.i y0),(.i (ql .i64 y1 1)),(.r y2),(.r (q6B y3 [[(.i (cI y2 y1 0)),(.i 0),(.i 100),(.i 104),(.i 4),(.i 1),(.b false)]])),(.r (q6B y4 [[(.i (cI y2 y1 0)),(.i 0),(.i 90),(.i 92),(.i 4),(.i 1),(.b true)]]))])) .fail) .fail) .fail) (.leaf (1,[(.r y3),(.r y4)]))):=by kernel_rfl
theorem qwm  : qaM []=(let r0:TR:=(qg q3t [(.i (qh [[(.i 0)],[(.i 1000)]])),(.i 0),(.r [[(.i 0)],[(.i 1000)]]),(.r []),(.r [])])
 .br (okR r0) (.leaf (0,[(.r (gR r0 0)),(.r (gR r0 1))])) .fail):=by kernel_rfl
theorem qmJ(x0:Int):uW [.i x0]=(.leaf (0,[(.r [[(.i 2),(.i 0),(.i 100)],[(.i 998),(.i 0),(.i 100)]]),(.r [[(.i (qv .i64 0 x0)),(.i 0),(.i 92)],[(.i (ql .i64 1000 x0)),(.i 0),(.i 92)]])])):=by kernel_rfl
theorem qr1  : q32 []=(let r0:TR:=(qaM [])
 .br (okR r0) (let r1:TR:=(vP [(.r (gR r0 0)),(.r (gR r0 1))])
 .br (okR r1) (.br (okR r0) (let r2:TR:=(q2C [(.r (gR r0 0)),(.r (gR r0 1))])
 .br (okR r2) (.br (okR r0) (let r3:TR:=(uW [(.i 2)])
 .br (okR r3) (let r4:TR:=(ye [(.r (gR r0 0)),(.r (gR r0 1)),(.r (gR r3 0)),(.r (gR r3 1))])
 .br (okR r4) (.br (okR r0) (let r5:TR:=(uW [(.i 3)])
 .br (okR r5) (let r6:TR:=(ye [(.r (gR r0 0)),(.r (gR r0 1)),(.r (gR r5 0)),(.r (gR r5 1))])
 .br (okR r6) (.br (okR r0) (.br (okR r5) (let r7:TR:=(j6 [(.r (gR r0 0)),(.r (gR r0 1)),(.r (gR r5 0)),(.r (gR r5 1))])
 .br (okR r7) (.br (okR r0) (.br (okR r3) (let r8:TR:=(zl [(.r (gR r0 0)),(.r (gR r0 1)),(.r (gR r3 0)),(.r (gR r3 1))])
 .br (okR r8) (.br (okR r0) (.br (okR r5) (let r9:TR:=(zl [(.r (gR r0 0)),(.r (gR r0 1)),(.r (gR r5 0)),(.r (gR r5 1))])
 .br (okR r9) (let r10:TR:=(ke [(.r [[(.i 10),(.i 12)],[(.i 20),(.i 21)]])])
 .br (okR r10) (.br (ine (ql .i64 (ql .i64 (ql .i64 (ql .i64 (ql .i64 (ql .i64 (ql .i64 (gI r1 1) (gI r2 1)) (gI r4 1)) (gI r6 1)) (gI r7 1)) (gI r8 4)) (gI r9 4)) (gI r10 2)) 0) (.leaf (0,[(.b false)])) (.br (not (gB r2 0)) (.leaf (0,[(.b false)])) (.br (not (gB r8 0)) (.leaf (0,[(.b false)])) (.br (gB r9 0) (.leaf (0,[(.b false)])) (.br (not (qwR (ieq (gI r10 0) 30) (qwR (ieq (gI r10 1) 33) true))) (.leaf (0,[(.b false)])) (let r11:TR:=(qZ [(.r (gR r1 0)),(.r [[(.i 0)],[(.i 0)]])])
 .br (okR r11) (.br (gB r11 0) (.br (ieq (qh (gR r4 0)) 0) (let r12:TR:=(qZ [(.r (gR r6 0)),(.r [[(.i 0)],[(.i 1)]])])
 .br (okR r12) (.br (gB r12 0) (let r13:TR:=(qZ [(.r (gR r7 0)),(.r [[(.i 0)],[(.i 1)]])])
 .br (okR r13) (.leaf (0,[(.b (gB r13 0))])) .fail) (.leaf (0,[(.b false)]))) .fail) (.leaf (0,[(.b false)]))) (.leaf (0,[(.b false)]))) .fail)))))) .fail) .fail) .fail) .fail) .fail) .fail) .fail) .fail) .fail) .fail) .fail) .fail) .fail) .fail) .fail) .fail) .fail) .fail) .fail) .fail):=by kernel_rfl
theorem qxQ(x0:Int):q5b [.i x0]=(.br (ile (-100000) x0) (.leaf (0,[(.b (ile x0 100000))])) (.leaf (0,[(.b false)]))):=by kernel_rfl
theorem qr7(x0:Int)(x1:Int):yS [.i x0,.i x1]=(.br (okR (q5b [(.i x0)])) (.br (gB (q5b [(.i x0)]) 0) (.br (okR (q5b [(.i x1)])) (.leaf (0,[(.b (gB (q5b [(.i x1)]) 0))])) .fail) (.leaf (0,[(.b false)]))) .fail):=by kernel_rfl
theorem qt4(x0:Int):jK [.i x0]=(.br (ile 1 x0) (.leaf (0,[(.b (ile x0 100000))])) (.leaf (0,[(.b false)]))):=by kernel_rfl
theorem qru(x0:Int)(x1:Int)(x2:Int)(x3:Int)(x4:Int)(x5:Int)(x6:Bool):q2V [.i x0,.i x1,.i x2,.i x3,.i x4,.i x5,.b x6]=(.br (okR (yS [(.i x0),(.i x1)])) (.br (not (gB (yS [(.i x0),(.i x1)]) 0)) (.leaf (0,[(.i 2)])) (.br (okR (jK [(.i x2)])) (.br (not (gB (jK [(.i x2)]) 0)) (.leaf (0,[(.i 2)])) (.br (okR (jK [(.i x3)])) (.br (not (gB (jK [(.i x3)]) 0)) (.leaf (0,[(.i 2)])) (.br (ilt x3 x2) (.leaf (0,[(.i 9)])) (.br (ilt x4 0) (.leaf (0,[(.i 2)])) (.br (ilt 100000 x4) (.leaf (0,[(.i 2)])) (.br (not x6) (.br (ile x2 x4) (.leaf (0,[(.i 2)])) (.br (ilt x5 0) (.leaf (0,[(.i 1)])) (.br (ilt 2 x5) (.leaf (0,[(.i 1)])) (.leaf (0,[(.i 0)]))))) (.br (ilt x5 0) (.leaf (0,[(.i 1)])) (.br (ilt 2 x5) (.leaf (0,[(.i 1)])) (.leaf (0,[(.i 0)]))))))))) .fail)) .fail)) .fail):=by kernel_rfl
theorem qtY(x0:Int)(x1:Int)(x2:Int)(x3:Int)(x4:Int)(x5:Int)(x6:Bool)(x7:Int)(x8:Int)(x9:Int)(x10:Int)(x11:Int)(x12:Int)(x13:Bool):q5n [.i x0,.i x1,.i x2,.i x3,.i x4,.i x5,.b x6,.i x7,.i x8,.i x9,.i x10,.i x11,.i x12,.b x13]=(let r0:TR:=(q2V [(.i x0),(.i x1),(.i x2),(.i x3),(.i x4),(.i x5),(.b x6)])
 .br (okR r0) (.br (ine (gI r0 0) 0) (.leaf (0,[(.i (gI r0 0))])) (let r1:TR:=(q2V [(.i x7),(.i x8),(.i x9),(.i x10),(.i x11),(.i x12),(.b x13)])
 .br (okR r1) (.br (ine (gI r1 0) 0) (.leaf (0,[(.i (gI r1 0))])) (.br (ine x5 1) (.leaf (0,[(.i 14)])) (.br (ine x12 1) (.leaf (0,[(.i 14)])) (.br (not (qwR (ieq x0 x7) (qwR (ieq x1 x8) true))) (.leaf (0,[(.i 16)])) (.br (beq x6 x13) (.leaf (0,[(.i 16)])) (.leaf (0,[(.i 0)]))))))) .fail)) .fail):=by kernel_rfl
theorem qe1(y0:Int)(y1:R)(y2:R):q1A [.i y0,.r y1,.r y2]=(.br (ilt y0 (qh y1)) (.br (inb y0 (qh y1)) (.br (inb y0 (qh y2)) (let r0:TR:=(q5n [(.i (cI y1 y0 0)),(.i (cI y1 y0 1)),(.i (cI y1 y0 2)),(.i (cI y1 y0 3)),(.i (cI y1 y0 4)),(.i (cI y1 y0 5)),(.b (cB y1 y0 6)),(.i (cI y2 y0 0)),(.i (cI y2 y0 1)),(.i (cI y2 y0 2)),(.i (cI y2 y0 3)),(.i (cI y2 y0 4)),(.i (cI y2 y0 5)),(.b (cB y2 y0 6))])
 .br (okR r0) (.br (ine (gI r0 0) 0) (.leaf (2,[(.i (gI r0 0))])) (.leaf (0,[(.i (ql .i64 y0 1)),(.r y1),(.r y2)]))) .fail) .fail) .fail) (.leaf (1,[]))):=by kernel_rfl
theorem qrP(x0:R)(x1:R):q31 [.r x0,.r x1]=(.br (ieq (qh x0) 0) (.leaf (0,[(.i 13)])) (.br (ilt 16 (qh x0)) (.leaf (0,[(.i 5)])) (.br (ine (qh x1) (qh x0)) (.leaf (0,[(.i 8)])) (let r0:TR:=(qg q1A [(.i 0),(.r x0),(.r x1)])
 .br (okR r0) (.br (jIs r0 0) (.leaf (0,[(.i 0)])) (.leaf (0,[(.i (gI r0 0))]))) .fail)))):=by kernel_rfl
theorem quy(x0:Int)(x1:Int)(x2:Int):q2L [.i x0,.i x1,.i x2]=(.br (okR (yS [(.i x0),(.i x1)])) (.br (not (gB (yS [(.i x0),(.i x1)]) 0)) (.leaf (0,[(.i 2)])) (.br (okR (jK [(.i x2)])) (.br (not (gB (jK [(.i x2)]) 0)) (.leaf (0,[(.i 2)])) (.leaf (0,[(.i 0)]))) .fail)) .fail):=by kernel_rfl
theorem qqm(x0:Int)(x1:Int)(x2:Int)(x3:Int)(x4:Int)(x5:Int)(x6:Bool)(x7:Int):q00 [.i x0,.i x1,.i x2,.i x3,.i x4,.i x5,.b x6,.i x7]=(.br (ile x2 x7) (.leaf (0,[(.b (ile x7 x3))])) (.leaf (0,[(.b false)]))):=by kernel_rfl
theorem qdE(y0:Int)(y1:R)(y2:R)(y3:R)(y4:R):q1r [.i y0,.r y1,.r y2,.r y3,.r y4]=(.br (ilt y0 (qh y3)) (.br (inb y0 (qh y3)) (let r0:TR:=(q2L [(.i (cI y3 y0 0)),(.i (cI y3 y0 1)),(.i (cI y3 y0 2))])
 .br (okR r0) (.br (ine (gI r0 0) 0) (.leaf (2,[(.i (gI r0 0))])) (.br (inb y0 (qh y4)) (let r1:TR:=(q2L [(.i (cI y4 y0 0)),(.i (cI y4 y0 1)),(.i (cI y4 y0 2))])
 .br (okR r1) (.br (ine (gI r1 0) 0) (.leaf (2,[(.i (gI r1 0))])) (.br (inb y0 (qh y1)) (.br (inb y0 (qh y3)) (let r2:TR:=(q00 [(.i (cI y1 y0 0)),(.i (cI y1 y0 1)),(.i (cI y1 y0 2)),(.i (cI y1 y0 3)),(.i (cI y1 y0 4)),(.i (cI y1 y0 5)),(.b (cB y1 y0 6)),(.i (cI y3 y0 2))])
 .br (okR r2) (.br (not (gB r2 0)) (.leaf (2,[(.i 14)])) (.br (inb y0 (qh y2)) (.br (inb y0 (qh y4)) (let r3:TR:=(q00 [(.i (cI y2 y0 0)),(.i (cI y2 y0 1)),(.i (cI y2 y0 2)),(.i (cI y2 y0 3)),(.i (cI y2 y0 4)),(.i (cI y2 y0 5)),(.b (cB y2 y0 6)),(.i (cI y4 y0 2))])
 .br (okR r3) (.br (not (gB r3 0)) (.leaf (2,[(.i 14)])) (.leaf (0,[(.i (ql .i64 y0 1)),(.r y1),(.r y2),(.r y3),(.r y4)]))) .fail) .fail) .fail)) .fail) .fail) .fail)) .fail) .fail)) .fail) .fail) (.leaf (1,[]))):=by kernel_rfl
theorem qrx(x0:R)(x1:R)(x2:R)(x3:R):yX [.r x0,.r x1,.r x2,.r x3]=(let r0:TR:=(q31 [(.r x0),(.r x1)])
 .br (okR r0) (.br (ine (gI r0 0) 0) (.leaf (0,[(.i (gI r0 0))])) (.br (ine (qh x2) (qh x0)) (.leaf (0,[(.i 8)])) (.br (ine (qh x3) (qh x1)) (.leaf (0,[(.i 8)])) (let r1:TR:=(qg q1r [(.i 0),(.r x0),(.r x1),(.r x2),(.r x3)])
 .br (okR r1) (.br (jIs r1 0) (.leaf (0,[(.i 0)])) (.leaf (0,[(.i (gI r1 0))]))) .fail)))) .fail):=by kernel_rfl
theorem qv6(x0:R)(x1:R)(x2:R)(x3:R):qaF [.r x0,.r x1,.r x2,.r x3]=(.br (ilt 40 (qh x0)) (.leaf (0,[(.b false)])) (.br (ilt 40 (qh x1)) (.leaf (0,[(.b false)])) (.br (ilt 40 (qh x2)) (.leaf (0,[(.b false)])) (.br (ilt 40 (qh x3)) (.leaf (0,[(.b false)])) (.br (ile (qh x0) 4) (.leaf (0,[(.b true)])) (let r0:TR:=(yX [(.r x0),(.r x1),(.r x2),(.r x3)])
 .br (okR r0) (.leaf (0,[(.b (ine (gI r0 0) 0))])) .fail)))))):=by kernel_rfl
theorem qwl(x0:R)(x1:R)(x2:R)(x3:R):qbc [.r x0,.r x1,.r x2,.r x3]=(let r0:TR:=(qaF [(.r x0),(.r x1),(.r x2),(.r x3)])
 .br (okR r0) (.leaf (0,[(.b (gB r0 0))])) .fail):=by kernel_rfl
theorem qtn(x0:R)(x1:R)(x2:R)(x3:R)(x4:Int):kd [.r x0,.r x1,.r x2,.r x3,.i x4]=(.br (inb x4 (qh x0)) (.br (cB x0 x4 6) (.br (inb x4 (qh x3)) (.br (inb x4 (qh x2)) (.leaf (0,[(.i (qv .i64 (cI x3 x4 2) (cI x2 x4 2)))])) .fail) .fail) (.br (inb x4 (qh x2)) (.br (inb x4 (qh x3)) (.leaf (0,[(.i (qv .i64 (cI x2 x4 2) (cI x3 x4 2)))])) .fail) .fail)) .fail):=by kernel_rfl
theorem qr2(x0:Int)(x1:Int)(x2:Int)(x3:Int):q6a [.i x0,.i x1,.i x2,.i x3]=(.leaf (0,[(.i (qv .i64 x0 x2)),(.i (qv .i64 x1 x3))])):=by kernel_rfl
theorem qrM(x0:List UInt8):qF [.s x0]=(.br (inb 0 (qu x0)) (.leaf (0,[(.b (ieq (sat x0 0) 45))])) .fail):=by kernel_rfl
theorem qpq(x0:List UInt8)(x1:Bool):qN [.s x0,.b x1]=(.br x1 (.br (not (seq x0 [48])) (.br (ile ((qu [45])+(qu x0)) 140737488355328) (.leaf (0,[(.s (qdh [45] x0))])) .fail) (.leaf (0,[(.s x0)]))) (.leaf (0,[(.s x0)]))):=by kernel_rfl
theorem qsZ(x0:List UInt8):qz [.s x0]=(.br (not (seq x0 [])) (.br (inb 0 (qu x0)) (.br (ieq (sat x0 0) 45) (.br (q6A (qu x0) (qu x0)) (.br (q6A 1 (qu x0)) (.leaf (0,[(.s (qcK x0 1 (qu x0)))])) .fail) .fail) (.leaf (0,[(.s x0)]))) .fail) (.leaf (0,[(.s x0)]))):=by kernel_rfl
theorem qpz(x0:List UInt8):zM [.s x0]=(let r0:TR:=(qz [(.s x0)])
 .br (okR r0) (let r1:TR:=(qF [(.s x0)])
 .br (okR r1) (let r2:TR:=(qN [(.s (gS r0 0)),(.b (not (gB r1 0)))])
 .br (okR r2) (.leaf (0,[(.s (gS r2 0))])) .fail) .fail) .fail):=by kernel_rfl
theorem qrp(y0:Int)(y1:List UInt8):q5T [.i y0,.s y1]=(.br (ilt 9 y0) (.br (ile ((qu (qib [[(.i (vY .u8 (ql .i64 48 (q6E y0 10))))]]))+(qu y1)) 140737488355328) (.leaf (0,[(.i (yY .i64 y0 10)),(.s (qdh (qib [[(.i (vY .u8 (ql .i64 48 (q6E y0 10))))]]) y1))])) .fail) (.leaf (1,[(.i y0),(.s y1)]))):=by kernel_rfl
theorem qwf(x0:Int):q4X [.i x0]=(.br (ieq x0 (qv .i64 0 x0)) (.br (ine x0 0) (.leaf (0,[(.s [45,57,50,50,51,51,55,50,48,51,54,56,53,52,55,55,53,56,48,56])])) (.br (ilt x0 0) .fail (let r0:TR:=(qg q5T [(.i x0),(.s [])])
 .br (okR r0) (.br (ile ((qu (qib [[(.i (vY .u8 (ql .i64 48 (gI r0 0))))]]))+(qu (gS r0 1))) 140737488355328) (.leaf (0,[(.s (qdh (qib [[(.i (vY .u8 (ql .i64 48 (gI r0 0))))]]) (gS r0 1)))])) .fail) .fail))) (.br (ilt x0 0) .fail (let r0:TR:=(qg q5T [(.i x0),(.s [])])
 .br (okR r0) (.br (ile ((qu (qib [[(.i (vY .u8 (ql .i64 48 (gI r0 0))))]]))+(qu (gS r0 1))) 140737488355328) (.leaf (0,[(.s (qdh (qib [[(.i (vY .u8 (ql .i64 48 (gI r0 0))))]]) (gS r0 1)))])) .fail) .fail))):=by kernel_rfl
theorem qts(y0:Int)(y1:List UInt8):q7J [.i y0,.s y1]=(.br (ilt 9 y0) (.br (ile ((qu (qib [[(.i (vY .u8 (ql .i64 48 (q6E y0 10))))]]))+(qu y1)) 140737488355328) (.leaf (0,[(.i (yY .i64 y0 10)),(.s (qdh (qib [[(.i (vY .u8 (ql .i64 48 (q6E y0 10))))]]) y1))])) .fail) (.leaf (1,[(.i y0),(.s y1)]))):=by kernel_rfl
theorem qqk(x0:Int):zd [.i x0]=(.br (ieq x0 (qv .i64 0 x0)) (.br (ine x0 0) (.leaf (0,[(.s [45,57,50,50,51,51,55,50,48,51,54,56,53,52,55,55,53,56,48,56])])) (.br (ilt x0 0) (let r0:TR:=(q4X [(.i (qv .i64 0 x0))])
 .br (okR r0) (let r1:TR:=(zM [(.s (gS r0 0))])
 .br (okR r1) (.leaf (0,[(.s (gS r1 0))])) .fail) .fail) (let r0:TR:=(qg q7J [(.i x0),(.s [])])
 .br (okR r0) (.br (ile ((qu (qib [[(.i (vY .u8 (ql .i64 48 (gI r0 0))))]]))+(qu (gS r0 1))) 140737488355328) (.leaf (0,[(.s (qdh (qib [[(.i (vY .u8 (ql .i64 48 (gI r0 0))))]]) (gS r0 1)))])) .fail) .fail))) (.br (ilt x0 0) (let r0:TR:=(q4X [(.i (qv .i64 0 x0))])
 .br (okR r0) (let r1:TR:=(zM [(.s (gS r0 0))])
 .br (okR r1) (.leaf (0,[(.s (gS r1 0))])) .fail) .fail) (let r0:TR:=(qg q7J [(.i x0),(.s [])])
 .br (okR r0) (.br (ile ((qu (qib [[(.i (vY .u8 (ql .i64 48 (gI r0 0))))]]))+(qu (gS r0 1))) 140737488355328) (.leaf (0,[(.s (qdh (qib [[(.i (vY .u8 (ql .i64 48 (gI r0 0))))]]) (gS r0 1)))])) .fail) .fail))):=by kernel_rfl
theorem qrL(x0:Int):q1l [.i x0]=(.br (okR (zd [(.i x0)])) (.leaf (0,[(.s (gS (zd [(.i x0)]) 0))])) .fail):=by kernel_rfl
theorem qe0(y0:List UInt8)(y1:Int)(y2:List UInt8)(y3:Int):uU [.s y0,.i y1,.s y2,.i y3]=(.br (ilt y3 (qu y2)) (.br (inb y3 (qu y2)) (.leaf (0,[(.s y0),(.i (ql .i64 (yM .i64 10 y1) (vY .i64 (qv .u8 (sat y2 y3) 48)))),(.s y2),(.i (ql .i64 y3 1))])) .fail) (.leaf (1,[(.s y0),(.i y1)]))):=by kernel_rfl
theorem qpX(x0:List UInt8):u5 [.s x0]=(let r0:TR:=(qz [(.s x0)])
 .br (okR r0) (let r1:TR:=(qg uU [(.s x0),(.i 0),(.s (gS r0 0)),(.i 0)])
 .br (okR r1) (let r2:TR:=(qF [(.s (gS r1 0))])
 .br (okR r2) (.br (gB r2 0) (.leaf (0,[(.i (qv .i64 0 (gI r1 1)))])) (.leaf (0,[(.i (gI r1 1))]))) .fail) .fail) .fail):=by kernel_rfl
theorem qrz(x0:List UInt8)(x1:List UInt8):wj [.s x0,.s x1]=(.br (okR (qz [(.s x0)])) (.br (ilt 18 (qu (gS (qz [(.s x0)]) 0))) (.leaf (0,[(.i 0),(.i 0),(.b false)])) (.br (okR (qz [(.s x1)])) (.br (ilt 18 (qu (gS (qz [(.s x1)]) 0))) (.leaf (0,[(.i 0),(.i 0),(.b false)])) (.br (okR (u5 [(.s x0)])) (.br (okR (u5 [(.s x1)])) (.leaf (0,[(.i (gI (u5 [(.s x0)]) 0)),(.i (gI (u5 [(.s x1)]) 0)),(.b true)])) .fail) .fail)) .fail)) .fail):=by kernel_rfl
theorem qqi(y0:List UInt8):q45 [.s y0]=(.br (ilt 1 (qu y0)) (.br (inb 0 (qu y0)) (.br (ieq (sat y0 0) 48) (.br (q6A (qu y0) (qu y0)) (.br (q6A 1 (qu y0)) (.leaf (0,[(.s (qcK y0 1 (qu y0)))])) .fail) .fail) (.leaf (1,[(.s y0)]))) .fail) (.leaf (1,[(.s y0)]))):=by kernel_rfl
theorem qtw(x0:List UInt8):zQ [.s x0]=(let r0:TR:=(qg q45 [(.s x0)])
 .br (okR r0) (.leaf (0,[(.s (gS r0 0))])) .fail):=by kernel_rfl
theorem qtl(x0:List UInt8)(x1:List UInt8):ka [.s x0,.s x1]=(.br (ilt (qu x0) (qu x1)) (.leaf (0,[(.b true)])) (.br (ieq (qu x0) (qu x1)) (.leaf (0,[(.b (slt x0 x1))])) (.leaf (0,[(.b false)])))):=by kernel_rfl
theorem qh1(y0:List UInt8)(y1:Int)(y2:Int)(y3:R):q1X [.s y0,.i y1,.i y2,.r y3]=(.br (ilt y2 y1) (.br (inb y2 (qh y3)) (.leaf (0,[(.s y0),(.i y1),(.i (ql .i64 y2 1)),(.r (qec y3 y2 0 [(.i 48)]))])) .fail) (.leaf (1,[(.s y0),(.i y1),(.r y3)]))):=by kernel_rfl
theorem que(x0:List UInt8)(x1:Int):q2y [.s x0,.i x1]=(.br (ieq x1 x1) (.br (q6A x1 140737488355328) (let r0:TR:=(qg q1X [(.s x0),(.i x1),(.i 0),(.r (q3R x1 [(.i 0)]))])
 .br (okR r0) (.br (ilt 0 (qh (gR r0 2))) (.br (q6A (qv .i64 (gI r0 1) (qu (gS r0 0))) (qh (gR r0 2))) (.br (ile (qu (gS r0 0)) (qxc (qh (gR r0 2)) (qv .i64 (gI r0 1) (qu (gS r0 0))))) (.leaf (0,[(.s (qib (qwy (gR r0 2) (qv .i64 (gI r0 1) (qu (gS r0 0))) (gS r0 0))))])) .fail) .fail) .fail) .fail) .fail) .fail):=by kernel_rfl
theorem qoW(x0:Int)(x1:Int)(x2:Int)(x3:Bool):q1P [.i x0,.i x1,.i x2,.b x3]=(.br x3 (.br (ilt 9 (ql .i64 (ql .i64 (vY .i64 (qv .u8 x0 48)) (vY .i64 (qv .u8 x1 48))) x2)) (.leaf (0,[(.i (vY .u8 (qv .i64 (ql .i64 48 (ql .i64 (ql .i64 (vY .i64 (qv .u8 x0 48)) (vY .i64 (qv .u8 x1 48))) x2)) 10))),(.i 1)])) (.br (ilt (ql .i64 (ql .i64 (vY .i64 (qv .u8 x0 48)) (vY .i64 (qv .u8 x1 48))) x2) 0) (.leaf (0,[(.i (vY .u8 (ql .i64 (ql .i64 48 (ql .i64 (ql .i64 (vY .i64 (qv .u8 x0 48)) (vY .i64 (qv .u8 x1 48))) x2)) 10))),(.i 1)])) (.leaf (0,[(.i (vY .u8 (ql .i64 48 (ql .i64 (ql .i64 (vY .i64 (qv .u8 x0 48)) (vY .i64 (qv .u8 x1 48))) x2)))),(.i 0)])))) (.br (ilt 9 (qv .i64 (qv .i64 (vY .i64 (qv .u8 x0 48)) (vY .i64 (qv .u8 x1 48))) x2)) (.leaf (0,[(.i (vY .u8 (qv .i64 (ql .i64 48 (qv .i64 (qv .i64 (vY .i64 (qv .u8 x0 48)) (vY .i64 (qv .u8 x1 48))) x2)) 10))),(.i 1)])) (.br (ilt (qv .i64 (qv .i64 (vY .i64 (qv .u8 x0 48)) (vY .i64 (qv .u8 x1 48))) x2) 0) (.leaf (0,[(.i (vY .u8 (ql .i64 (ql .i64 48 (qv .i64 (qv .i64 (vY .i64 (qv .u8 x0 48)) (vY .i64 (qv .u8 x1 48))) x2)) 10))),(.i 1)])) (.leaf (0,[(.i (vY .u8 (ql .i64 48 (qv .i64 (qv .i64 (vY .i64 (qv .u8 x0 48)) (vY .i64 (qv .u8 x1 48))) x2)))),(.i 0)]))))):=by kernel_rfl
theorem qor(y0:List UInt8)(y1:List UInt8)(y2:Bool)(y3:Int)(y4:Int)(y5:R):q0i [.s y0,.s y1,.b y2,.i y3,.i y4,.r y5]=(.br (ile 0 y4) (.br (inb y4 (qu y0)) (.br (inb y4 (qu y1)) (let r0:TR:=(q1P [(.i (sat y0 y4)),(.i (sat y1 y4)),(.i y3),(.b y2)])
 .br (okR r0) (.br (inb y4 (qh y5)) (.leaf (0,[(.s y0),(.s y1),(.b y2),(.i (gI r0 1)),(.i (qv .i64 y4 1)),(.r (qec y5 y4 0 [(.i (gI r0 0))]))])) .fail) .fail) .fail) .fail) (.leaf (1,[(.r y5)]))):=by kernel_rfl
theorem qrN(x0:List UInt8)(x1:List UInt8)(x2:Bool):vF [.s x0,.s x1,.b x2]=(let r0:TR:=(q2y [(.s x0),(.i (ql .i64 (qgb (qu x0) (qu x1)) 1))])
 .br (okR r0) (let r1:TR:=(q2y [(.s x1),(.i (ql .i64 (qgb (qu x0) (qu x1)) 1))])
 .br (okR r1) (.br (ieq (ql .i64 (qgb (qu x0) (qu x1)) 1) (ql .i64 (qgb (qu x0) (qu x1)) 1)) (.br (q6A (ql .i64 (qgb (qu x0) (qu x1)) 1) 140737488355328) (let r2:TR:=(qg q0i [(.s (gS r0 0)),(.s (gS r1 0)),(.b x2),(.i 0),(.i (qv .i64 (ql .i64 (qgb (qu x0) (qu x1)) 1) 1)),(.r (q3R (ql .i64 (qgb (qu x0) (qu x1)) 1) [(.i 0)]))])
 .br (okR r2) (let r3:TR:=(zQ [(.s (qib (gR r2 0)))])
 .br (okR r3) (.leaf (0,[(.s (gS r3 0))])) .fail) .fail) .fail) .fail) .fail) .fail):=by kernel_rfl
theorem qjJ(y0:List UInt8)(y1:List UInt8)(y2:List UInt8)(y3:List UInt8)(y4:Int)(y5:Int):yh [.s y0,.s y1,.s y2,.s y3,.i y4,.i y5]=(let r0:TR:=(ka [(.s y3),(.s y1)])
 .br (okR r0) (.br (not (gB r0 0)) (let r1:TR:=(vF [(.s y3),(.s y1),(.b false)])
 .br (okR r1) (.leaf (0,[(.s y0),(.s y1),(.s y2),(.s (gS r1 0)),(.i y4),(.i (ql .u8 y5 1))])) .fail) (.leaf (1,[(.s y0),(.s y1),(.s y2),(.s y3),(.i y4),(.i y5)]))) .fail):=by kernel_rfl
theorem ql2(y0:List UInt8)(y1:List UInt8)(y2:List UInt8)(y3:List UInt8)(y4:Int):q0q [.s y0,.s y1,.s y2,.s y3,.i y4]=(.br (ilt y4 (qu y0)) (.br (q6A (ql .i64 y4 1) (qu y0)) (.br (q6A y4 (ql .i64 y4 1)) (.br (ile ((qu y3)+(qu (qcK y0 y4 (ql .i64 y4 1)))) 140737488355328) (let r0:TR:=(zQ [(.s (qdh y3 (qcK y0 y4 (ql .i64 y4 1))))])
 .br (okR r0) (let r1:TR:=(qg yh [(.s y0),(.s y1),(.s y2),(.s (gS r0 0)),(.i y4),(.i 48)])
 .br (okR r1) (.br (ile ((qu (gS r1 2))+(qu (qib [[(.i (gI r1 5))]]))) 140737488355328) (.leaf (0,[(.s (gS r1 0)),(.s (gS r1 1)),(.s (qdh (gS r1 2) (qib [[(.i (gI r1 5))]]))),(.s (gS r1 3)),(.i (ql .i64 (gI r1 4) 1))])) .fail) .fail) .fail) .fail) .fail) .fail) (.leaf (1,[(.s y2),(.s y3)]))):=by kernel_rfl
theorem qo7(x0:List UInt8)(x1:List UInt8):q2K [.s x0,.s x1]=(let r0:TR:=(qg q0q [(.s x0),(.s x1),(.s []),(.s [48]),(.i 0)])
 .br (okR r0) (let r1:TR:=(zQ [(.s (gS r0 0))])
 .br (okR r1) (.leaf (0,[(.s (gS r1 0)),(.s (gS r0 1))])) .fail) .fail):=by kernel_rfl
theorem qtC(x0:List UInt8)(x1:List UInt8):q2R [.s x0,.s x1]=(let r0:TR:=(wj [(.s x0),(.s x1)])
 .br (okR r0) (.br (gB r0 2) (let r1:TR:=(zd [(.i (ql .i64 (gI r0 0) (gI r0 1)))])
 .br (okR r1) (.leaf (0,[(.s (gS r1 0))])) .fail) (let r1:TR:=(qz [(.s x0)])
 .br (okR r1) (let r2:TR:=(qz [(.s x1)])
 .br (okR r2) (let r3:TR:=(qF [(.s x0)])
 .br (okR r3) (let r4:TR:=(qF [(.s x1)])
 .br (okR r4) (.br (beq (gB r3 0) (gB r4 0)) (let r5:TR:=(vF [(.s (gS r1 0)),(.s (gS r2 0)),(.b true)])
 .br (okR r5) (.br (okR r3) (let r6:TR:=(qN [(.s (gS r5 0)),(.b (gB r3 0))])
 .br (okR r6) (.leaf (0,[(.s (gS r6 0))])) .fail) .fail) .fail) (let r5:TR:=(ka [(.s (gS r1 0)),(.s (gS r2 0))])
 .br (okR r5) (.br (gB r5 0) (let r6:TR:=(vF [(.s (gS r2 0)),(.s (gS r1 0)),(.b false)])
 .br (okR r6) (.br (okR r4) (let r7:TR:=(qN [(.s (gS r6 0)),(.b (gB r4 0))])
 .br (okR r7) (.leaf (0,[(.s (gS r7 0))])) .fail) .fail) .fail) (let r6:TR:=(vF [(.s (gS r1 0)),(.s (gS r2 0)),(.b false)])
 .br (okR r6) (.br (okR r3) (let r7:TR:=(qN [(.s (gS r6 0)),(.b (gB r3 0))])
 .br (okR r7) (.leaf (0,[(.s (gS r7 0))])) .fail) .fail) .fail)) .fail)) .fail) .fail) .fail) .fail)) .fail):=by kernel_rfl
theorem qrR(x0:List UInt8)(x1:List UInt8):wT [.s x0,.s x1]=(let r0:TR:=(zM [(.s x1)])
 .br (okR r0) (let r1:TR:=(q2R [(.s x0),(.s (gS r0 0))])
 .br (okR r1) (.leaf (0,[(.s (gS r1 0))])) .fail) .fail):=by kernel_rfl
theorem qkG(y0:List UInt8)(y1:List UInt8)(y2:Int)(y3:Int)(y4:R):um [.s y0,.s y1,.i y2,.i y3,.r y4]=(.br (ilt y3 (qu y1)) (.br (inb (ql .i64 (ql .i64 y2 y3) 1) (qh y4)) (.br (inb y2 (qu y0)) (.br (inb y3 (qu y1)) (.br (inb (ql .i64 (ql .i64 y2 y3) 1) (qh y4)) (.leaf (0,[(.s y0),(.s y1),(.i y2),(.i (ql .i64 y3 1)),(.r (qec y4 (ql .i64 (ql .i64 y2 y3) 1) 0 [(.i (ql .i64 (cI y4 (ql .i64 (ql .i64 y2 y3) 1) 0) (yM .i64 (vY .i64 (qv .u8 (sat y0 y2) 48)) (vY .i64 (qv .u8 (sat y1 y3) 48)))))]))])) .fail) .fail) .fail) .fail) (.leaf (1,[(.s y0),(.s y1),(.i y2),(.r y4)]))):=by kernel_rfl
theorem qla(y0:List UInt8)(y1:List UInt8)(y2:Int)(y3:R):uk [.s y0,.s y1,.i y2,.r y3]=(.br (ilt y2 (qu y0)) (let r0:TR:=(qg um [(.s y0),(.s y1),(.i y2),(.i 0),(.r y3)])
 .br (okR r0) (.leaf (0,[(.s (gS r0 0)),(.s (gS r0 1)),(.i (ql .i64 (gI r0 2) 1)),(.r (gR r0 3))])) .fail) (.leaf (1,[(.r y3)]))):=by kernel_rfl
theorem qk1(y0:Int)(y1:Int)(y2:R)(y3:R):jV [.i y0,.i y1,.r y2,.r y3]=(.br (ile 0 y1) (.br (inb y1 (qh y2)) (.br (inb y1 (qh y3)) (.leaf (0,[(.i (yY .i64 (ql .i64 y0 (cI y2 y1 0)) 10)),(.i (qv .i64 y1 1)),(.r y2),(.r (qec y3 y1 0 [(.i (vY .u8 (ql .i64 48 (q6E (ql .i64 y0 (cI y2 y1 0)) 10))))]))])) .fail) .fail) (.leaf (1,[(.r y3)]))):=by kernel_rfl
theorem qod(x0:List UInt8)(x1:List UInt8):q0J [.s x0,.s x1]=(.br (ieq (ql .i64 (qu x0) (qu x1)) (ql .i64 (qu x0) (qu x1))) (.br (q6A (ql .i64 (qu x0) (qu x1)) 17592186044416) (let r0:TR:=(qg uk [(.s x0),(.s x1),(.i 0),(.r (q3R (ql .i64 (qu x0) (qu x1)) [(.i 0)]))])
 .br (okR r0) (.br (ieq (qh (gR r0 0)) (qh (gR r0 0))) (.br (q6A (qh (gR r0 0)) 140737488355328) (let r1:TR:=(qg jV [(.i 0),(.i (qv .i64 (qh (gR r0 0)) 1)),(.r (gR r0 0)),(.r (q3R (qh (gR r0 0)) [(.i 0)]))])
 .br (okR r1) (let r2:TR:=(zQ [(.s (qib (gR r1 0)))])
 .br (okR r2) (.leaf (0,[(.s (gS r2 0))])) .fail) .fail) .fail) .fail) .fail) .fail) .fail):=by kernel_rfl
theorem qqZ(x0:List UInt8)(x1:List UInt8):wl [.s x0,.s x1]=(let r0:TR:=(wj [(.s x0),(.s x1)])
 .br (okR r0) (.br (gB r0 2) (.br (ile (ql .i64 (qu x0) (qu x1)) 18) (let r1:TR:=(zd [(.i (yM .i64 (gI r0 0) (gI r0 1)))])
 .br (okR r1) (.leaf (0,[(.s (gS r1 0))])) .fail) (let r1:TR:=(qz [(.s x0)])
 .br (okR r1) (let r2:TR:=(qz [(.s x1)])
 .br (okR r2) (let r3:TR:=(q0J [(.s (gS r1 0)),(.s (gS r2 0))])
 .br (okR r3) (let r4:TR:=(qF [(.s x0)])
 .br (okR r4) (let r5:TR:=(qF [(.s x1)])
 .br (okR r5) (let r6:TR:=(qN [(.s (gS r3 0)),(.b (not (beq (gB r4 0) (gB r5 0))))])
 .br (okR r6) (.leaf (0,[(.s (gS r6 0))])) .fail) .fail) .fail) .fail) .fail) .fail)) (let r1:TR:=(qz [(.s x0)])
 .br (okR r1) (let r2:TR:=(qz [(.s x1)])
 .br (okR r2) (let r3:TR:=(q0J [(.s (gS r1 0)),(.s (gS r2 0))])
 .br (okR r3) (let r4:TR:=(qF [(.s x0)])
 .br (okR r4) (let r5:TR:=(qF [(.s x1)])
 .br (okR r5) (let r6:TR:=(qN [(.s (gS r3 0)),(.b (not (beq (gB r4 0) (gB r5 0))))])
 .br (okR r6) (.leaf (0,[(.s (gS r6 0))])) .fail) .fail) .fail) .fail) .fail) .fail)) .fail):=by kernel_rfl
theorem qqQ(x0:List UInt8)(x1:List UInt8):wg [.s x0,.s x1]=(let r0:TR:=(wj [(.s x0),(.s x1)])
 .br (okR r0) (.br (gB r0 2) (.br (ine (gI r0 1) 0) (.br (ine (q6E (gI r0 0) (gI r0 1)) 0) (.br (not (beq (ilt (q6E (gI r0 0) (gI r0 1)) 0) (ilt (gI r0 1) 0))) (.br (ine (gI r0 1) 0) (let r1:TR:=(zd [(.i (yY .i64 (qv .i64 (gI r0 0) (ql .i64 (q6E (gI r0 0) (gI r0 1)) (gI r0 1))) (gI r0 1)))])
 .br (okR r1) (let r2:TR:=(zd [(.i (ql .i64 (q6E (gI r0 0) (gI r0 1)) (gI r0 1)))])
 .br (okR r2) (.leaf (0,[(.s (gS r1 0)),(.s (gS r2 0))])) .fail) .fail) .fail) (.br (ine (gI r0 1) 0) (let r1:TR:=(zd [(.i (yY .i64 (qv .i64 (gI r0 0) (q6E (gI r0 0) (gI r0 1))) (gI r0 1)))])
 .br (okR r1) (let r2:TR:=(zd [(.i (q6E (gI r0 0) (gI r0 1)))])
 .br (okR r2) (.leaf (0,[(.s (gS r1 0)),(.s (gS r2 0))])) .fail) .fail) .fail)) (.br (ine (gI r0 1) 0) (let r1:TR:=(zd [(.i (yY .i64 (qv .i64 (gI r0 0) (q6E (gI r0 0) (gI r0 1))) (gI r0 1)))])
 .br (okR r1) (let r2:TR:=(zd [(.i (q6E (gI r0 0) (gI r0 1)))])
 .br (okR r2) (.leaf (0,[(.s (gS r1 0)),(.s (gS r2 0))])) .fail) .fail) .fail)) .fail) (let r1:TR:=(qz [(.s x0)])
 .br (okR r1) (let r2:TR:=(qz [(.s x1)])
 .br (okR r2) (let r3:TR:=(q2K [(.s (gS r1 0)),(.s (gS r2 0))])
 .br (okR r3) (let r4:TR:=(qF [(.s x0)])
 .br (okR r4) (let r5:TR:=(qF [(.s x1)])
 .br (okR r5) (let r6:TR:=(qN [(.s (gS r3 0)),(.b (not (beq (gB r4 0) (gB r5 0))))])
 .br (okR r6) (.br (not (seq (gS r3 1) [48])) (.br (okR r4) (.br (okR r5) (.br (not (beq (gB r4 0) (gB r5 0))) (let r7:TR:=(wT [(.s (gS r6 0)),(.s [49])])
 .br (okR r7) (let r8:TR:=(wl [(.s (gS r7 0)),(.s x1)])
 .br (okR r8) (let r9:TR:=(wT [(.s x0),(.s (gS r8 0))])
 .br (okR r9) (.leaf (0,[(.s (gS r7 0)),(.s (gS r9 0))])) .fail) .fail) .fail) (let r7:TR:=(wl [(.s (gS r6 0)),(.s x1)])
 .br (okR r7) (let r8:TR:=(wT [(.s x0),(.s (gS r7 0))])
 .br (okR r8) (.leaf (0,[(.s (gS r6 0)),(.s (gS r8 0))])) .fail) .fail)) .fail) .fail) (let r7:TR:=(wl [(.s (gS r6 0)),(.s x1)])
 .br (okR r7) (let r8:TR:=(wT [(.s x0),(.s (gS r7 0))])
 .br (okR r8) (.leaf (0,[(.s (gS r6 0)),(.s (gS r8 0))])) .fail) .fail)) .fail) .fail) .fail) .fail) .fail) .fail)) .fail):=by kernel_rfl
theorem qkh(y0:Int)(y1:Int):ul [.i y0,.i y1]=(.br (ilt 0 y1) (.br (ine y1 0) (.leaf (0,[(.i y1),(.i (q6E y0 y1))])) .fail) (.leaf (1,[(.i y0)]))):=by kernel_rfl
theorem qmY(y0:List UInt8)(y1:List UInt8):q1C [.s y0,.s y1]=(.br (not (seq y1 [48])) (let r0:TR:=(wj [(.s y0),(.s y1)])
 .br (okR r0) (.br (gB r0 2) (let r1:TR:=(qg ul [(.i (gI r0 0)),(.i (gI r0 1))])
 .br (okR r1) (let r2:TR:=(zd [(.i (gI r1 0))])
 .br (okR r2) (.leaf (2,[(.s (gS r2 0))])) .fail) .fail) (let r1:TR:=(wg [(.s y0),(.s y1)])
 .br (okR r1) (.leaf (0,[(.s y1),(.s (gS r1 1))])) .fail)) .fail) (.leaf (1,[(.s y0)]))):=by kernel_rfl
theorem qpS(x0:List UInt8)(x1:List UInt8):q4q [.s x0,.s x1]=(let r0:TR:=(qz [(.s x0)])
 .br (okR r0) (let r1:TR:=(qN [(.s (gS r0 0)),(.b false)])
 .br (okR r1) (let r2:TR:=(qz [(.s x1)])
 .br (okR r2) (let r3:TR:=(qN [(.s (gS r2 0)),(.b false)])
 .br (okR r3) (let r4:TR:=(qg q1C [(.s (gS r1 0)),(.s (gS r3 0))])
 .br (okR r4) (.br (jIs r4 0) (.leaf (0,[(.s (gS r4 0))])) (.leaf (0,[(.s (gS r4 0))]))) .fail) .fail) .fail) .fail) .fail):=by kernel_rfl
theorem qpd(x0:List UInt8)(x1:List UInt8):zN [.s x0,.s x1]=(let r0:TR:=(q4q [(.s x0),(.s x1)])
 .br (okR r0) (let r1:TR:=(qF [(.s x1)])
 .br (okR r1) (.br (gB r1 0) (let r2:TR:=(zM [(.s (gS r0 0))])
 .br (okR r2) (let r3:TR:=(wg [(.s x0),(.s (gS r2 0))])
 .br (okR r3) (let r4:TR:=(wg [(.s x1),(.s (gS r2 0))])
 .br (okR r4) (.br (seq (gS r4 0) [49]) (.leaf (0,[(.s (gS r3 0))])) (.br (ile ((qu (gS r3 0))+(qu [47])) 140737488355328) (.br (ile ((qu (qdh (gS r3 0) [47]))+(qu (gS r4 0))) 140737488355328) (.leaf (0,[(.s (qdh (qdh (gS r3 0) [47]) (gS r4 0)))])) .fail) .fail)) .fail) .fail) .fail) (let r2:TR:=(wg [(.s x0),(.s (gS r0 0))])
 .br (okR r2) (let r3:TR:=(wg [(.s x1),(.s (gS r0 0))])
 .br (okR r3) (.br (seq (gS r3 0) [49]) (.leaf (0,[(.s (gS r2 0))])) (.br (ile ((qu (gS r2 0))+(qu [47])) 140737488355328) (.br (ile ((qu (qdh (gS r2 0) [47]))+(qu (gS r3 0))) 140737488355328) (.leaf (0,[(.s (qdh (qdh (gS r2 0) [47]) (gS r3 0)))])) .fail) .fail)) .fail) .fail)) .fail) .fail):=by kernel_rfl
theorem qtp(x0:Int)(x1:Int):q5j [.i x0,.i x1]=(let r0:TR:=(zd [(.i x0)])
 .br (okR r0) (let r1:TR:=(zd [(.i x1)])
 .br (okR r1) (let r2:TR:=(zN [(.s (gS r0 0)),(.s (gS r1 0))])
 .br (okR r2) (.leaf (0,[(.s (gS r2 0))])) .fail) .fail) .fail):=by kernel_rfl
theorem qfR(y0:Int)(y1:R)(y2:R)(y3:R)(y4:R)(y5:R):q0F [.i y0,.r y1,.r y2,.r y3,.r y4,.r y5]=(.br (ilt y0 (qh y3)) (.br (inb y0 (qh y4)) (.br (inb y0 (qh y3)) (let r0:TR:=(q6a [(.i (cI y4 y0 0)),(.i (cI y4 y0 1)),(.i (cI y3 y0 0)),(.i (cI y3 y0 1))])
 .br (okR r0) (let r1:TR:=(kd [(.r y1),(.r y2),(.r y3),(.r y4),(.i y0)])
 .br (okR r1) (let r2:TR:=(q1l [(.i (gI r0 0))])
 .br (okR r2) (let r3:TR:=(q1l [(.i (gI r0 1))])
 .br (okR r3) (let r4:TR:=(q5j [(.i (yM .i64 (gI r1 0) (gI r1 0))),(.i 4)])
 .br (okR r4) (.br (ile ((qh y5)+(qh [[(.s (gS r2 0)),(.s (gS r3 0)),(.s (gS r4 0))]])) 2932031007402) (.leaf (0,[(.i (ql .i64 y0 1)),(.r y1),(.r y2),(.r y3),(.r y4),(.r (q6B y5 [[(.s (gS r2 0)),(.s (gS r3 0)),(.s (gS r4 0))]]))])) .fail) .fail) .fail) .fail) .fail) .fail) .fail) .fail) (.leaf (1,[(.r y5)]))):=by kernel_rfl
theorem qri(x0:R)(x1:R)(x2:R)(x3:R):q1p [.r x0,.r x1,.r x2,.r x3]=(let r0:TR:=(qg q0F [(.i 0),(.r x0),(.r x1),(.r x2),(.r x3),(.r [])])
 .br (okR r0) (.leaf (0,[(.r (gR r0 0))])) .fail):=by kernel_rfl
theorem q8O(y0:Int)(y1:R)(y2:R)(y3:R)(y4:R):uu [.i y0,.r y1,.r y2,.r y3,.r y4]=(.br (ilt y0 (qh y3)) (let r0:TR:=(kd [(.r y1),(.r y2),(.r y3),(.r y4),(.i y0)])
 .br (okR r0) (.br (ilt (gI r0 0) 0) (.leaf (2,[(.i y0)])) (.leaf (0,[(.i (ql .i64 y0 1)),(.r y1),(.r y2),(.r y3),(.r y4)]))) .fail) (.leaf (1,[]))):=by kernel_rfl
theorem qrQ(x0:R)(x1:R)(x2:R)(x3:R):q1f [.r x0,.r x1,.r x2,.r x3]=(let r0:TR:=(qg uu [(.i 0),(.r x0),(.r x1),(.r x2),(.r x3)])
 .br (okR r0) (.br (jIs r0 0) (.leaf (0,[(.i (-1))])) (.leaf (0,[(.i (gI r0 0))]))) .fail):=by kernel_rfl
theorem qos(y0:List UInt8)(y1:Int):q2G [.s y0,.i y1]=(.br (ilt y1 (qu y0)) (.br (inb y1 (qu y0)) (.br (ieq (sat y0 y1) 47) (.leaf (2,[(.i y1)])) (.leaf (0,[(.s y0),(.i (ql .i64 y1 1))]))) .fail) (.leaf (1,[]))):=by kernel_rfl
theorem qr0(x0:List UInt8):q5O [.s x0]=(let r0:TR:=(qg q2G [(.s x0),(.i 0)])
 .br (okR r0) (.br (jIs r0 0) (.leaf (0,[(.i (-1))])) (.leaf (0,[(.i (gI r0 0))]))) .fail):=by kernel_rfl
theorem qr3(x0:List UInt8):yR [.s x0]=(let r0:TR:=(q5O [(.s x0)])
 .br (okR r0) (.br (ilt (gI r0 0) 0) (.leaf (0,[(.s x0),(.s [49])])) (.br (q6A (gI r0 0) (qu x0)) (.br (q6A 0 (gI r0 0)) (.br (q6A (qu x0) (qu x0)) (.br (q6A (ql .i64 (gI r0 0) 1) (qu x0)) (.leaf (0,[(.s (qcK x0 0 (gI r0 0))),(.s (qcK x0 (ql .i64 (gI r0 0) 1) (qu x0)))])) .fail) .fail) .fail) .fail)) .fail):=by kernel_rfl
theorem qo5(x0:List UInt8)(x1:List UInt8):zv [.s x0,.s x1]=(let r0:TR:=(yR [(.s x0)])
 .br (okR r0) (let r1:TR:=(yR [(.s x1)])
 .br (okR r1) (let r2:TR:=(wl [(.s (gS r0 0)),(.s (gS r1 1))])
 .br (okR r2) (let r3:TR:=(wl [(.s (gS r1 0)),(.s (gS r0 1))])
 .br (okR r3) (let r4:TR:=(wl [(.s (gS r0 1)),(.s (gS r1 1))])
 .br (okR r4) (let r5:TR:=(wl [(.s (gS r0 0)),(.s (gS r1 0))])
 .br (okR r5) (let r6:TR:=(wl [(.s (gS r0 1)),(.s (gS r1 0))])
 .br (okR r6) (.leaf (0,[(.r [[(.s (gS r2 0))],[(.s (gS r3 0))],[(.s (gS r4 0))],[(.s (gS r5 0))],[(.s (gS r6 0))]])])) .fail) .fail) .fail) .fail) .fail) .fail) .fail):=by kernel_rfl
theorem qrn(x0:List UInt8)(x1:List UInt8):wt [.s x0,.s x1]=(let r0:TR:=(zv [(.s x0),(.s x1)])
 .br (okR r0) (.br (inb 0 (qh (gR r0 0))) (.br (inb 1 (qh (gR r0 0))) (let r1:TR:=(wT [(.s (cS (gR r0 0) 0 0)),(.s (cS (gR r0 0) 1 0))])
 .br (okR r1) (.br (inb 2 (qh (gR r0 0))) (let r2:TR:=(zN [(.s (gS r1 0)),(.s (cS (gR r0 0) 2 0))])
 .br (okR r2) (.leaf (0,[(.s (gS r2 0))])) .fail) .fail) .fail) .fail) .fail) .fail):=by kernel_rfl
theorem qqa(x0:List UInt8):u4 [.s x0]=(let r0:TR:=(wt [(.s [48]),(.s x0)])
 .br (okR r0) (.leaf (0,[(.s (gS r0 0))])) .fail):=by kernel_rfl
theorem qrX(x0:List UInt8)(x1:List UInt8)(x2:List UInt8)(x3:List UInt8):q1n [.s x0,.s x1,.s x2,.s x3]=(let r0:TR:=(wt [(.s x0),(.s x2)])
 .br (okR r0) (let r1:TR:=(wt [(.s x1),(.s x3)])
 .br (okR r1) (.leaf (0,[(.s (gS r0 0)),(.s (gS r1 0))])) .fail) .fail):=by kernel_rfl
theorem qtG(x0:List UInt8)(x1:List UInt8):jE [.s x0,.s x1]=(let r0:TR:=(zv [(.s x0),(.s x1)])
 .br (okR r0) (.br (inb 0 (qh (gR r0 0))) (.br (inb 1 (qh (gR r0 0))) (let r1:TR:=(q2R [(.s (cS (gR r0 0) 0 0)),(.s (cS (gR r0 0) 1 0))])
 .br (okR r1) (.br (inb 2 (qh (gR r0 0))) (let r2:TR:=(zN [(.s (gS r1 0)),(.s (cS (gR r0 0) 2 0))])
 .br (okR r2) (.leaf (0,[(.s (gS r2 0))])) .fail) .fail) .fail) .fail) .fail) .fail):=by kernel_rfl
theorem qrd(x0:List UInt8)(x1:List UInt8):z6 [.s x0,.s x1]=(let r0:TR:=(zv [(.s x0),(.s x1)])
 .br (okR r0) (.br (inb 3 (qh (gR r0 0))) (.br (inb 2 (qh (gR r0 0))) (let r1:TR:=(zN [(.s (cS (gR r0 0) 3 0)),(.s (cS (gR r0 0) 2 0))])
 .br (okR r1) (.leaf (0,[(.s (gS r1 0))])) .fail) .fail) .fail) .fail):=by kernel_rfl
theorem qva(x0:List UInt8)(x1:List UInt8)(x2:List UInt8)(x3:List UInt8):q1e [.s x0,.s x1,.s x2,.s x3]=(let r0:TR:=(z6 [(.s x0),(.s x2)])
 .br (okR r0) (let r1:TR:=(z6 [(.s x1),(.s x3)])
 .br (okR r1) (let r2:TR:=(jE [(.s (gS r0 0)),(.s (gS r1 0))])
 .br (okR r2) (.leaf (0,[(.s (gS r2 0))])) .fail) .fail) .fail):=by kernel_rfl
theorem qxy(x0:List UInt8)(x1:List UInt8):qa9 [.s x0,.s x1]=(let r0:TR:=(zv [(.s x0),(.s x1)])
 .br (okR r0) (.br (inb 0 (qh (gR r0 0))) (.br (inb 4 (qh (gR r0 0))) (let r1:TR:=(zN [(.s (cS (gR r0 0) 0 0)),(.s (cS (gR r0 0) 4 0))])
 .br (okR r1) (.leaf (0,[(.s (gS r1 0))])) .fail) .fail) .fail) .fail):=by kernel_rfl
theorem qr4(x0:List UInt8)(x1:List UInt8):q11 [.s x0,.s x1]=(let r0:TR:=(wT [(.s x0),(.s x1)])
 .br (okR r0) (.br (seq (gS r0 0) [48]) (.leaf (0,[(.i 0)])) (let r1:TR:=(qF [(.s (gS r0 0))])
 .br (okR r1) (.br (gB r1 0) (.leaf (0,[(.i (-1))])) (.leaf (0,[(.i 1)]))) .fail)) .fail):=by kernel_rfl
theorem qpH(x0:List UInt8):jv [.s x0]=(let r0:TR:=(yR [(.s x0)])
 .br (okR r0) (let r1:TR:=(q11 [(.s (gS r0 0)),(.s [48])])
 .br (okR r1) (.leaf (0,[(.i (gI r1 0))])) .fail) .fail):=by kernel_rfl
theorem qn9(x0:List UInt8)(x1:List UInt8)(x2:List UInt8)(x3:List UInt8)(x4:List UInt8)(x5:List UInt8):q1B [.s x0,.s x1,.s x2,.s x3,.s x4,.s x5]=(let r0:TR:=(q1n [(.s x3),(.s x4),(.s x0),(.s x1)])
 .br (okR r0) (let r1:TR:=(q1e [(.s (gS r0 0)),(.s (gS r0 1)),(.s (gS r0 0)),(.s (gS r0 1))])
 .br (okR r1) (.br (seq (gS r1 0) [48]) (.leaf (0,[(.s []),(.s []),(.s []),(.s []),(.s []),(.b false)])) (let r2:TR:=(jE [(.s (gS r1 0)),(.s x2)])
 .br (okR r2) (let r3:TR:=(wt [(.s (gS r2 0)),(.s x5)])
 .br (okR r3) (let r4:TR:=(z6 [(.s [50]),(.s (gS r1 0))])
 .br (okR r4) (let r5:TR:=(qa9 [(.s (gS r3 0)),(.s (gS r4 0))])
 .br (okR r5) (let r6:TR:=(qa9 [(.s x2),(.s (gS r1 0))])
 .br (okR r6) (let r7:TR:=(z6 [(.s (gS r5 0)),(.s (gS r5 0))])
 .br (okR r7) (let r8:TR:=(wt [(.s (gS r6 0)),(.s (gS r7 0))])
 .br (okR r8) (let r9:TR:=(z6 [(.s (gS r5 0)),(.s (gS r0 0))])
 .br (okR r9) (let r10:TR:=(jE [(.s x0),(.s (gS r9 0))])
 .br (okR r10) (let r11:TR:=(z6 [(.s (gS r5 0)),(.s (gS r0 1))])
 .br (okR r11) (let r12:TR:=(jE [(.s x1),(.s (gS r11 0))])
 .br (okR r12) (let r13:TR:=(u4 [(.s (gS r0 1))])
 .br (okR r13) (let r14:TR:=(jv [(.s (gS r8 0))])
 .br (okR r14) (.leaf (0,[(.s (gS r10 0)),(.s (gS r12 0)),(.s (gS r13 0)),(.s (gS r0 0)),(.s (gS r8 0)),(.b (ile 0 (gI r14 0)))])) .fail) .fail) .fail) .fail) .fail) .fail) .fail) .fail) .fail) .fail) .fail) .fail) .fail)) .fail) .fail):=by kernel_rfl
theorem qo2(x0:R)(x1:Int)(x2:Int)(x3:Int):uy [.r x0,.i x1,.i x2,.i x3]=(.br (ieq x1 x2) (.br (inb x1 (qh x0)) (.leaf (0,[(.s (cS x0 x1 0)),(.s (cS x0 x1 1)),(.s [48]),(.s [48]),(.s [48]),(.b (ieq x3 0))])) .fail) (.br (inb x1 (qh x0)) (.br (inb x2 (qh x0)) (let r0:TR:=(q1B [(.s (cS x0 x1 0)),(.s (cS x0 x1 1)),(.s (cS x0 x1 2)),(.s (cS x0 x2 0)),(.s (cS x0 x2 1)),(.s (cS x0 x2 2))])
 .br (okR r0) (.br (not (gB r0 5)) (.leaf (0,[(.s []),(.s []),(.s []),(.s []),(.s []),(.b false)])) (.br (not (beq (seq (gS r0 4) [48]) (ieq x3 0))) (.leaf (0,[(.s []),(.s []),(.s []),(.s []),(.s []),(.b false)])) (.br (ilt x3 0) (let r1:TR:=(u4 [(.s (gS r0 2))])
 .br (okR r1) (let r2:TR:=(u4 [(.s (gS r0 3))])
 .br (okR r2) (.leaf (0,[(.s (gS r0 0)),(.s (gS r0 1)),(.s (gS r1 0)),(.s (gS r2 0)),(.s (gS r0 4)),(.b true)])) .fail) .fail) (.leaf (0,[(.s (gS r0 0)),(.s (gS r0 1)),(.s (gS r0 2)),(.s (gS r0 3)),(.s (gS r0 4)),(.b true)]))))) .fail) .fail) .fail)):=by kernel_rfl
theorem qrr(x0:List UInt8)(x1:List UInt8):q6p [.s x0,.s x1]=(let r0:TR:=(zv [(.s x0),(.s x1)])
 .br (okR r0) (.br (inb 0 (qh (gR r0 0))) (.br (inb 1 (qh (gR r0 0))) (let r1:TR:=(q11 [(.s (cS (gR r0 0) 0 0)),(.s (cS (gR r0 0) 1 0))])
 .br (okR r1) (.leaf (0,[(.i (gI r1 0))])) .fail) .fail) .fail) .fail):=by kernel_rfl
theorem qtr(x0:List UInt8)(x1:List UInt8)(x2:List UInt8):q8a [.s x0,.s x1,.s x2]=(let r0:TR:=(jv [(.s x0)])
 .br (okR r0) (let r1:TR:=(jv [(.s x1)])
 .br (okR r1) (let r2:TR:=(jv [(.s x2)])
 .br (okR r2) (.br (ile 0 (yM .i64 (gI r0 0) (yM .i64 (gI r1 0) (gI r2 0)))) (.br (ieq (gI r0 0) 0) (.leaf (0,[(.i (yM .i64 (gI r1 0) (gI r2 0)))])) (.leaf (0,[(.i (gI r0 0))]))) (let r3:TR:=(z6 [(.s x0),(.s x0)])
 .br (okR r3) (let r4:TR:=(z6 [(.s x1),(.s x1)])
 .br (okR r4) (let r5:TR:=(z6 [(.s (gS r4 0)),(.s x2)])
 .br (okR r5) (let r6:TR:=(q6p [(.s (gS r3 0)),(.s (gS r5 0))])
 .br (okR r6) (.leaf (0,[(.i (yM .i64 (gI r0 0) (gI r6 0)))])) .fail) .fail) .fail) .fail)) .fail) .fail) .fail):=by kernel_rfl
theorem qrT(x0:List UInt8)(x1:List UInt8)(x2:List UInt8)(x3:List UInt8)(x4:List UInt8)(x5:List UInt8)(x6:List UInt8)(x7:List UInt8):q3a [.s x0,.s x1,.s x2,.s x3,.s x4,.s x5,.s x6,.s x7]=(let r0:TR:=(q1n [(.s x3),(.s x4),(.s x0),(.s x1)])
 .br (okR r0) (let r1:TR:=(q1e [(.s (gS r0 0)),(.s (gS r0 1)),(.s (gS r0 0)),(.s (gS r0 1))])
 .br (okR r1) (let r2:TR:=(q1e [(.s x5),(.s x6),(.s x5),(.s x6)])
 .br (okR r2) (let r3:TR:=(z6 [(.s x7),(.s (gS r2 0))])
 .br (okR r3) (let r4:TR:=(jE [(.s (gS r1 0)),(.s (gS r3 0))])
 .br (okR r4) (let r5:TR:=(wt [(.s (gS r4 0)),(.s x2)])
 .br (okR r5) (let r6:TR:=(q1e [(.s (gS r0 0)),(.s (gS r0 1)),(.s x5),(.s x6)])
 .br (okR r6) (let r7:TR:=(z6 [(.s [50]),(.s (gS r6 0))])
 .br (okR r7) (let r8:TR:=(q8a [(.s (gS r5 0)),(.s (gS r7 0)),(.s x7)])
 .br (okR r8) (.leaf (0,[(.b (ile (gI r8 0) 0))])) .fail) .fail) .fail) .fail) .fail) .fail) .fail) .fail) .fail):=by kernel_rfl
theorem q7e(y0:R)(y1:Int)(y2:List UInt8)(y3:List UInt8)(y4:List UInt8)(y5:List UInt8)(y6:List UInt8):q1O [.r y0,.i y1,.s y2,.s y3,.s y4,.s y5,.s y6]=(.br (ilt y1 (qh y0)) (.br (inb y1 (qh y0)) (let r0:TR:=(q3a [(.s (cS y0 y1 0)),(.s (cS y0 y1 1)),(.s (cS y0 y1 2)),(.s y2),(.s y3),(.s y4),(.s y5),(.s y6)])
 .br (okR r0) (.br (not (gB r0 0)) (.leaf (2,[(.b false)])) (.leaf (0,[(.r y0),(.i (ql .i64 y1 1)),(.s y2),(.s y3),(.s y4),(.s y5),(.s y6)]))) .fail) .fail) (.leaf (1,[]))):=by kernel_rfl
theorem qpi(x0:R)(x1:Int)(x2:Int)(x3:Int):vE [.r x0,.i x1,.i x2,.i x3]=(let r0:TR:=(uy [(.r x0),(.i x1),(.i x2),(.i x3)])
 .br (okR r0) (.br (not (gB r0 5)) (.leaf (0,[(.b false)])) (let r1:TR:=(qg q1O [(.r x0),(.i 0),(.s (gS r0 0)),(.s (gS r0 1)),(.s (gS r0 2)),(.s (gS r0 3)),(.s (gS r0 4))])
 .br (okR r1) (.br (jIs r1 0) (.leaf (0,[(.b true)])) (.leaf (0,[(.b (gB r1 0))]))) .fail)) .fail):=by kernel_rfl
theorem qfz(y0:R)(y1:Int)(y2:Int)(y3:Int)(y4:Int):q2v [.r y0,.i y1,.i y2,.i y3,.i y4]=(.br (ilt y1 (qh y0)) (let r0:TR:=(vE [(.r y0),(.i y1),(.i y1),(.i 0)])
 .br (okR r0) (.br (gB r0 0) (.leaf (2,[(.b true),(.i y1),(.i y1),(.i 0)])) (.leaf (0,[(.r y0),(.i (ql .i64 y1 1)),(.i y2),(.i y3),(.i y4)]))) .fail) (.leaf (1,[(.r y0),(.i y2),(.i y3),(.i y4)]))):=by kernel_rfl
theorem qdz(y0:R)(y1:Int)(y2:Int)(y3:Int)(y4:Int)(y5:Int)(y6:Int)(y7:Int)(y8:R):q1t [.r y0,.i y1,.i y2,.i y3,.i y4,.i y5,.i y6,.i y7,.r y8]=(.br (ilt y4 y3) (.br (inb y4 (qh y8)) (let r0:TR:=(vE [(.r y0),(.i y1),(.i y2),(.i (cI y8 y4 0))])
 .br (okR r0) (.br (gB r0 0) (.leaf (2,[(.b true),(.i y1),(.i y2),(.i (cI y8 y4 0))])) (.leaf (0,[(.r y0),(.i y1),(.i y2),(.i y3),(.i (ql .i64 y4 1)),(.i y5),(.i y6),(.i y7),(.r y8)]))) .fail) .fail) (.leaf (1,[(.r y0),(.i y1),(.i y2),(.i y5),(.i y6),(.i y7)]))):=by kernel_rfl
theorem qdA(y0:R)(y1:Int)(y2:Int)(y3:Int)(y4:Int)(y5:Int):q1u [.r y0,.i y1,.i y2,.i y3,.i y4,.i y5]=(.br (ilt y2 (qh y0)) (let r0:TR:=(qg q1t [(.r y0),(.i y1),(.i y2),(.i (qh [[(.i 0)],[(.i 1)],[(.i (-1))]])),(.i 0),(.i y3),(.i y4),(.i y5),(.r [[(.i 0)],[(.i 1)],[(.i (-1))]])])
 .br (okR r0) (.br (jIs r0 0) (.leaf (0,[(.r (gR r0 0)),(.i (gI r0 1)),(.i (ql .i64 (gI r0 2) 1)),(.i (gI r0 3)),(.i (gI r0 4)),(.i (gI r0 5))])) (.leaf (2,[(.b (gB r0 0)),(.i (gI r0 1)),(.i (gI r0 2)),(.i (gI r0 3))]))) .fail) (.leaf (1,[(.r y0),(.i y1),(.i y3),(.i y4),(.i y5)]))):=by kernel_rfl
theorem qdU(y0:R)(y1:Int)(y2:Int)(y3:Int)(y4:Int):q1D [.r y0,.i y1,.i y2,.i y3,.i y4]=(.br (ilt y1 (qh y0)) (let r0:TR:=(qg q1u [(.r y0),(.i y1),(.i (ql .i64 y1 1)),(.i y2),(.i y3),(.i y4)])
 .br (okR r0) (.br (jIs r0 0) (.leaf (0,[(.r (gR r0 0)),(.i (ql .i64 (gI r0 1) 1)),(.i (gI r0 2)),(.i (gI r0 3)),(.i (gI r0 4))])) (.leaf (2,[(.b (gB r0 0)),(.i (gI r0 1)),(.i (gI r0 2)),(.i (gI r0 3))]))) .fail) (.leaf (1,[(.i y2),(.i y3),(.i y4)]))):=by kernel_rfl
theorem qr8(x0:R):wn [.r x0]=(let r0:TR:=(qg q2v [(.r x0),(.i 0),(.i 0),(.i 0),(.i 0)])
 .br (okR r0) (.br (jIs r0 0) (let r1:TR:=(qg q1D [(.r (gR r0 0)),(.i 0),(.i (gI r0 1)),(.i (gI r0 2)),(.i (gI r0 3))])
 .br (okR r1) (.br (jIs r1 0) (.leaf (0,[(.i 0),(.i 0),(.i 0),(.b false)])) (.leaf (0,[(.i (gI r1 1)),(.i (gI r1 2)),(.i (gI r1 3)),(.b (gB r1 0))]))) .fail) (.leaf (0,[(.i (gI r0 1)),(.i (gI r0 2)),(.i (gI r0 3)),(.b (gB r0 0))]))) .fail):=by kernel_rfl
theorem qmF(x0:R)(x1:R)(x2:R)(x3:R):q1x [.r x0,.r x1,.r x2,.r x3]=(let r0:TR:=(yX [(.r x0),(.r x1),(.r x2),(.r x3)])
 .br (okR r0) (.br (ine (gI r0 0) 0) (.leaf (0,[(.b false),(.i 0),(.i 0),(.i 0),(.i (gI r0 0))])) (let r1:TR:=(q1f [(.r x0),(.r x1),(.r x2),(.r x3)])
 .br (okR r1) (.br (ile 0 (gI r1 0)) (.leaf (0,[(.b false),(.i 0),(.i 0),(.i 0),(.i 0)])) (let r2:TR:=(q1p [(.r x0),(.r x1),(.r x2),(.r x3)])
 .br (okR r2) (let r3:TR:=(wn [(.r (gR r2 0))])
 .br (okR r3) (.leaf (0,[(.b (gB r3 3)),(.i (gI r3 0)),(.i (gI r3 1)),(.i (gI r3 2)),(.i 0)])) .fail) .fail)) .fail)) .fail):=by kernel_rfl
theorem qfP(y0:R)(y1:Int)(y2:Int):q2I [.r y0,.i y1,.i y2]=(.br (ilt y2 (qh y0)) (.br (inb y1 (qh y0)) (.br (inb y2 (qh y0)) (let r0:TR:=(wn [(.r [[(.s (cS y0 y1 0)),(.s (cS y0 y1 1)),(.s (cS y0 y1 2))],[(.s (cS y0 y2 0)),(.s (cS y0 y2 1)),(.s (cS y0 y2 2))]])])
 .br (okR r0) (.br (not (gB r0 3)) (.leaf (2,[(.r [[(.i y1)],[(.i y2)]])])) (.leaf (0,[(.r y0),(.i y1),(.i (ql .i64 y2 1))]))) .fail) .fail) .fail) (.leaf (1,[(.r y0),(.i y1)]))):=by kernel_rfl
theorem qfx(y0:R)(y1:Int):q2E [.r y0,.i y1]=(.br (ilt y1 (qh y0)) (let r0:TR:=(qg q2I [(.r y0),(.i y1),(.i (ql .i64 y1 1))])
 .br (okR r0) (.br (jIs r0 0) (.leaf (0,[(.r (gR r0 0)),(.i (ql .i64 (gI r0 1) 1))])) (.leaf (2,[(.r (gR r0 0))]))) .fail) (.leaf (1,[(.r y0)]))):=by kernel_rfl
theorem qe3(y0:R)(y1:Int)(y2:Int)(y3:Int):q1v [.r y0,.i y1,.i y2,.i y3]=(.br (ilt y3 (qh y0)) (.br (inb y1 (qh y0)) (.br (inb y2 (qh y0)) (.br (inb y3 (qh y0)) (let r0:TR:=(wn [(.r [[(.s (cS y0 y1 0)),(.s (cS y0 y1 1)),(.s (cS y0 y1 2))],[(.s (cS y0 y2 0)),(.s (cS y0 y2 1)),(.s (cS y0 y2 2))],[(.s (cS y0 y3 0)),(.s (cS y0 y3 1)),(.s (cS y0 y3 2))]])])
 .br (okR r0) (.br (not (gB r0 3)) (.leaf (2,[(.r [[(.i y1)],[(.i y2)],[(.i y3)]])])) (.leaf (0,[(.r y0),(.i y1),(.i y2),(.i (ql .i64 y3 1))]))) .fail) .fail) .fail) .fail) (.leaf (1,[(.r y0),(.i y1),(.i y2)]))):=by kernel_rfl
theorem qdP(y0:R)(y1:Int)(y2:Int):q1M [.r y0,.i y1,.i y2]=(.br (ilt y2 (qh y0)) (let r0:TR:=(qg q1v [(.r y0),(.i y1),(.i y2),(.i (ql .i64 y2 1))])
 .br (okR r0) (.br (jIs r0 0) (.leaf (0,[(.r (gR r0 0)),(.i (gI r0 1)),(.i (ql .i64 (gI r0 2) 1))])) (.leaf (2,[(.r (gR r0 0))]))) .fail) (.leaf (1,[(.r y0),(.i y1)]))):=by kernel_rfl
theorem qdY(y0:R)(y1:Int):q1G [.r y0,.i y1]=(.br (ilt y1 (qh y0)) (let r0:TR:=(qg q1M [(.r y0),(.i y1),(.i (ql .i64 y1 1))])
 .br (okR r0) (.br (jIs r0 0) (.leaf (0,[(.r (gR r0 0)),(.i (ql .i64 (gI r0 1) 1))])) (.leaf (2,[(.r (gR r0 0))]))) .fail) (.leaf (1,[]))):=by kernel_rfl
theorem qrq(x0:R):q6r [.r x0]=(let r0:TR:=(qg q2E [(.r x0),(.i 0)])
 .br (okR r0) (.br (jIs r0 0) (let r1:TR:=(qg q1G [(.r (gR r0 0)),(.i 0)])
 .br (okR r1) (.br (jIs r1 0) (.leaf (0,[(.r [])])) (.leaf (0,[(.r (gR r1 0))]))) .fail) (.leaf (0,[(.r (gR r0 0))]))) .fail):=by kernel_rfl
theorem qre(x0:R)(x1:R)(x2:R)(x3:R):q5K [.r x0,.r x1,.r x2,.r x3]=(let r0:TR:=(yX [(.r x0),(.r x1),(.r x2),(.r x3)])
 .br (okR r0) (.br (ine (gI r0 0) 0) (.leaf (0,[(.r []),(.i (gI r0 0))])) (let r1:TR:=(q1f [(.r x0),(.r x1),(.r x2),(.r x3)])
 .br (okR r1) (.br (ile 0 (gI r1 0)) (.leaf (0,[(.r [[(.i (gI r1 0))]]),(.i 0)])) (let r2:TR:=(q1p [(.r x0),(.r x1),(.r x2),(.r x3)])
 .br (okR r2) (let r3:TR:=(q6r [(.r (gR r2 0))])
 .br (okR r3) (.leaf (0,[(.r (gR r3 0)),(.i 0)])) .fail) .fail)) .fail)) .fail):=by kernel_rfl
theorem qew(x0:R)(x1:R)(x2:R)(x3:R):ja [.r x0,.r x1,.r x2,.r x3]=(let r0:TR:=(qbc [(.r x0),(.r x1),(.r x2),(.r x3)])
 .br (okR r0) (.br (not (gB r0 0)) (let r1:TR:=(q32 [])
 .br (okR r1) (.leaf (0,[(.b (gB r1 0))])) .fail) (let r1:TR:=(zl [(.r x0),(.r x1),(.r x2),(.r x3)])
 .br (okR r1) (let r2:TR:=(q1x [(.r x0),(.r x1),(.r x2),(.r x3)])
 .br (okR r2) (let r3:TR:=(j6 [(.r x0),(.r x1),(.r x2),(.r x3)])
 .br (okR r3) (let r4:TR:=(q5K [(.r x0),(.r x1),(.r x2),(.r x3)])
 .br (okR r4) (let r5:TR:=(q32 [])
 .br (okR r5) (.br (gB r5 0) (.br (beq (gB r1 0) (gB r2 0)) (.br (qwR (ieq (gI r1 1) (gI r2 1)) (qwR (ieq (gI r1 2) (gI r2 2)) (qwR (ieq (gI r1 3) (gI r2 3)) true))) (.br (ieq (gI r1 4) (gI r2 4)) (let r6:TR:=(qZ [(.r (gR r3 0)),(.r (gR r4 0))])
 .br (okR r6) (.br (gB r6 0) (.leaf (0,[(.b (ieq (gI r3 1) (gI r4 1)))])) (.leaf (0,[(.b false)]))) .fail) (.leaf (0,[(.b false)]))) (.leaf (0,[(.b false)]))) (.leaf (0,[(.b false)]))) (.leaf (0,[(.b false)]))) .fail) .fail) .fail) .fail) .fail)) .fail):=by kernel_rfl
end Go.Eng

namespace Go.Eng
mutual
def qog{H:Type}:DataW H→List U
 | .lit (.bool b)=>[.b b]
 | .lit (.int _ n)=>[.i n]
 | .lit (.string s)=>[.s s]
 | .nil=>[.l []]
 | .slice es _=>[.l (qv9 es)]
 | .agg ps=>qA2 ps
 | _=>[.i 0]
def qA2{H:Type}:List (DataW H)→List U
 | []=>[]
 | d::l=>qog d++qA2 l
def qv9{H:Type}:List (DataW H)→List (List U)
 | []=>[]
 | d::l=>qog d::qv9 l
end
theorem qkZ{H:Type}:∀l:List (DataW H),qv9 l=l.map qog
 | []=>rfl
 | d::l=>by simp[qv9,qkZ l]
inductive UFit:Sh→U→Prop
 | int (k:IntKind) (n:Int) (h0:k.min≤n) (h1:n≤k.max):UFit (.int k) (.i n)
 | bool (b:Bool):UFit .bool (.b b)
 | str (s:List UInt8) (h:s.length≤maxLen):UFit .str (.s s)
 | sl (row:List Sh) (l:R) (h:l.length≤maxLen) (hl:∀r,r∈l→r.length=row.length) (hf:∀(r:List U) (j:Nat) (s:Sh) (u:U),r∈l→row[j]?=some s→r[j]?=some u→UFit s u):UFit (.sl row) (.l l)
inductive CR (W:World) (M:Nat→Prop):List Sh→List U→List Value→Prop
 | nil:CR W M [] [] []
 | cons {s:Sh} {u:U} {v:Value} {sh:List Sh} {us:List U} {vs:List Value} (h:RepU W M s u v) (f:UFit s u) (t:CR W M sh us vs):CR W M (s::sh) (u::us) (v::vs)
theorem CR.append{W:World}{M:Nat→Prop}{a a':List Sh}{b b':List U}{c c':List Value}(h:CR W M a b c)(k:CR W M a' b' c'):CR W M (a++a') (b++b') (c++c'):=by
 induction h with
 | nil=>exact k
 | cons h f t ih=>exact .cons h f ih
theorem CR.len{W:World}{M:Nat→Prop}{a:List Sh}{b:List U}{c:List Value}(h:CR W M a b c):b.length=a.length∧c.length=a.length:=by
 induction h with
 | nil=>exact⟨rfl,rfl⟩
 | cons h f t ih=>simp[ih.1,ih.2]
theorem CR.get{W:World}{M:Nat→Prop}{a:List Sh}{b:List U}{c:List Value}(h:CR W M a b c):∀(j:Nat) (s:Sh),a[j]?=some s→∃u v,b[j]?=some u∧c[j]?=some v∧RepU W M s u v∧UFit s u:=by
 induction h with
 | nil=>intro j s hj;simp at hj
 | cons h f t ih=>
  intro j s hj
  cases j with
  | zero=>simp at hj;subst hj;exact⟨_,_,rfl,rfl,h,f⟩
  | succ j=>simpa using ih j s (by simpa using hj)
def qu9:Nat→List (Nat×TypeId×Nat)→Bool
 | _,[]=>true
 | o,f::l=>Nat.beq f.1 o&&qu9 (o+f.2.2) l
def qzo:List (Nat×TypeId×Nat)→Nat
 | []=>0
 | f::l=>f.2.2+qzo l
def qwX(x:TI):Bool:=match x.d with
 | .struct fs=>qu9 0 fs&&Nat.beq (qzo fs) x.size
 | .array n _ es=>Nat.beq (n*es) x.size
 | .slice _ es=>Nat.blt 0 es
 | _=>true
theorem qD7{E:Env}(h:E.tt.all (fun x=>qwX x.2)=true)(t:TypeId):qwX (E.ty t)=true:=by
 unfold Env.ty
 cases hf:E.tt.find? fun x=>x.1==t with
 | none=>rfl
 | some x=>exact List.all_eq_true.1 h x (List.mem_of_find?_eq_some hf)
section
variable {H:Type} {enc:TypeId×Value→H} {P:Program} {W:World} {base:Nat} {sp:Nat→Bool} {held:Bool} {E:Env}
theorem qsA{M:Nat→Prop}{fuel n:Nat}{cs:List Value}(ih:∀t cs d ps sh,E.shape n t=some sh→DataW.trod enc P W base sp held fuel t cs=some (d,ps)→CR W M sh (qog d) cs) :
  ∀(fs:List (Nat×TypeId×Nat)) (o:Nat) (xs:List (DataW H×List MemPlace)) (shs:List (List Sh)),qu9 o fs=true→o+qzo fs=cs.length→fs.mapM (fun f=>E.shape n f.2.1)=some shs →
   xs.length=fs.length→(∀(i:Nat) (f:Nat×TypeId×Nat),fs[i]?=some f→DataW.trod enc P W base sp held fuel f.2.1 ((cs.drop f.1).take f.2.2)=xs[i]?) →
   CR W M shs.flatten (qA2 (xs.map (·.1))) (cs.drop o)
 | [],o,xs,shs,_,hs,hsh,hl,_=>by
  simp[qzo] at hs hsh hl
  subst hsh hl
  have:cs.drop o=[]:=List.drop_eq_nil_of_le (by omega)
  rw[this]
  exact .nil
 | f::fs,o,xs,shs,hlay,hs,hsh,hl,hx=>by
  simp only[qu9,Bool.and_eq_true] at hlay
  obtain⟨h1,h2⟩:=hlay
  have ho:f.1=o:=Nat.eq_of_beq_eq_true h1
  simp only[qzo] at hs
  rw[List.mapM_cons] at hsh
  cases hsf:E.shape n f.2.1 with
  | none=>rw[hsf] at hsh;cases hsh
  | some shf=>
   cases hrest:fs.mapM (fun f=>E.shape n f.2.1) with
   | none=>rw[hsf,hrest] at hsh;cases hsh
   | some shr=>
    rw[hsf,hrest] at hsh
    cases hsh
    cases xs with
    | nil=>simp at hl
    | cons x xs=>
     have h0:=hx 0 f rfl
     simp only[List.getElem?_cons_zero] at h0
     have c1:=ih f.2.1 _ x.1 x.2 shf hsf h0
     rw[ho] at c1
     have c2:=qsA (cs:=cs) (M:=M) (fuel:=fuel) ih fs (o+f.2.2) xs shr h2 (by omega) hrest (by simpa using hl) fun i g hg=>by
      have:=hx (i+1) g (by simpa using hg)
      simpa using this
     have hsplit:cs.drop o=(cs.drop o).take f.2.2++cs.drop (o+f.2.2):=by
      rw[←List.drop_drop,List.take_append_drop]
     rw[hsplit]
     simp only[List.flatten_cons,List.map_cons,qA2]
     exact c1.append c2
theorem qvI{M:Nat→Prop}{fuel n es:Nat}{e:TypeId}{cs:List Value}{she:List Sh}(he:E.shape n e=some she)
  (ih:∀t cs d ps sh,E.shape n t=some sh→DataW.trod enc P W base sp held fuel t cs=some (d,ps)→CR W M sh (qog d) cs) :
  ∀(m o:Nat) (xs:List (DataW H×List MemPlace)),(o+m)*es=cs.length→xs.length=m→(∀i,i<m→DataW.trod enc P W base sp held fuel e ((cs.drop ((o+i)*es)).take es)=xs[i]?) →
   CR W M (List.replicate m she).flatten (qA2 (xs.map (·.1))) (cs.drop (o*es))
 | 0,o,xs,hs,hl,_=>by
  simp at hl hs;subst hl
  have:cs.drop (o*es)=[]:=List.drop_eq_nil_of_le (by omega)
  rw[this]
  exact .nil
 | m+1,o,xs,hs,hl,hx=>by
  cases xs with
  | nil=>simp at hl
  | cons x xs=>
   have h0:=hx 0 (by omega)
   simp only[List.getElem?_cons_zero,Nat.add_zero] at h0
   have c1:=ih e _ x.1 x.2 she he h0
   have c2:=qvI (cs:=cs) he ih m (o+1) xs (by rw[←hs];congr 1;omega) (by simpa using hl) fun i hi=>by
    have:=hx (i+1) (by omega)
    rw[show o+(i+1)=o+1+i by omega] at this
    simpa using this
   have hsplit:cs.drop (o*es)=(cs.drop (o*es)).take es++cs.drop ((o+1)*es):=by
    rw[Nat.add_mul,Nat.one_mul,←List.drop_drop,List.take_append_drop]
   rw[hsplit]
   simp only[List.replicate_succ,List.flatten_cons,List.map_cons,qA2]
   exact c1.append c2
theorem qyh(hE:E.tok P)(hlay:E.tt.all (fun x=>qwX x.2)=true):∀(fuel n:Nat) (t:TypeId) (cs:List Value) (d:DataW H) (ps:List MemPlace) (sh:List Sh),E.shape n t=some sh →
  DataW.trod enc P W base sp held fuel t cs=some (d,ps)→CR W (fun b=>b<W.heap.size) sh (qog d) cs:=by
 intro fuel
 induction fuel with
 | zero=>intro n t cs d ps sh _ h;simp[DataW.trod] at h
 | succ fuel ih=>
  intro n t cs d ps sh hsh h
  cases n with
  | zero=>simp[Env.shape] at hsh
  | succ n=>
   simp only[Env.shape] at hsh
   have hl:=qD7 hlay t
   unfold qwX at hl
   cases hd:(E.ty t).d<;>rw[hd] at hsh hl<;>simp only at hsh hl<;>try (cases hsh)
   ·
    unfold DataW.trod at h
    rw[qpF hE hd] at h
    split at h<;>simp_all
    obtain⟨rfl,_⟩:=h
    exact .cons (.bool (.b _)) (.bool _) .nil
   ·
    rename_i k
    unfold DataW.trod at h
    rw[qoT hE hd] at h
    split at h<;>simp_all
    obtain⟨⟨rfl,hw⟩,rfl,_⟩:=h
    simp[Lit.wf] at hw
    exact .cons (.int _ (.i _)) (.int _ _ hw.1 hw.2) .nil
   ·
    unfold DataW.trod at h
    rw[qiJ hE hd] at h
    split at h<;>simp_all
    rename_i s
    obtain⟨hm,rfl,_⟩:=h
    refine .cons ?_ (.str _ (by simpa using hm)) .nil
    have:=RepU.str (w:=W) (M:=fun b=>b<W.heap.size) (.s s.data.toList)
    simpa[U.toS] using this
   ·
    rename_i e es
    obtain⟨ht,rfl⟩:=q19 hE hd
    cases he:E.shape n e with
    | none=>rw[he] at hsh;cases hsh
    | some she=>
     rw[he] at hsh
     cases hsh
     have hpos:0<P.cellsOf e:=by simpa[Nat.blt_eq] using hl
     rcases DataW.trod_slice ht h with⟨rfl,hx⟩|⟨a,len,cap,elems,rest,k,hk,rfl,hx,hb,hlc,hcm,hlen,hel,_,_⟩
     ·cases hx
      exact .cons (.slnil _ _ rfl) (.sl _ _ (by simp[maxLen]) (fun r hr=>by cases hr) (fun r j s u hr=>by cases hr)) .nil
     ·cases hx
      cases hk
      have hrow:∀(i:Nat) (hi:i<len),∃cs',W.cells? base (a.add (i*P.cellsOf e)) (P.cellsOf e)=some cs'∧CR W (fun b=>b<W.heap.size) she (qog (elems[i]'(by omega)).1) cs':=by
       intro i hi
       have h0:=hel i hi
       rw[List.getElem?_eq_getElem (by omega)] at h0
       obtain⟨cs',g1,g2⟩:=Option.bind_eq_some_iff.1 h0
       exact⟨cs',g1,ih n e cs' _ _ she he g2⟩
      have hget:∀(r:Nat) (hr:r<len),(((elems.map (·.1)).map qog).getD r []:List U)=qog (elems[r]'(by omega)).1:=by
       intro r hr
       simp[List.getD_eq_getElem?_getD,hlen,hr]
      have hcell:∀(r j:Nat) (s:Sh) (hr:r<len),she[j]?=some s→∃v,W.cell? ⟨a.block,a.off+r*she.length+j,none⟩=some v∧RepU W (fun b=>b<W.heap.size) s (vu (qv9 (elems.map (·.1))) r j) v∧UFit s ((qog (elems[r]'(by omega)).1).getD j (.i 0))∧a.spot=none∧a.block<W.heap.size:=by
       intro r j s hr hj
       obtain⟨cs',g1,g2⟩:=hrow r hr
       obtain⟨_,g4,g5⟩:=World.cells?_some g1
       obtain⟨q1,q2⟩:=g2.len
       obtain⟨u,v,e1,e2,e3,e4⟩:=g2.get j s hj
       have hlen:she.length=P.cellsOf e:=by rw[←q2,g4]
       have hjl:j<P.cellsOf e:=by rw[←hlen];exact qt hj
       have hc:=(g5 j hjl).trans e2
       have h00:=g5 0 hpos
       obtain⟨cs0,z1,z2⟩:=hrow 0 (by omega)
       obtain⟨_,z4,z5⟩:=World.cells?_some z1
       have hz:=z5 0 hpos
       obtain⟨v0,hv0⟩:∃v0,cs0[0]?=some v0:=⟨cs0[0],List.getElem?_eq_getElem (by omega)⟩
       rw[hv0] at hz
       simp only[Nat.zero_mul,Addr.add,if_true] at hz
       have hspot:=World.cell?_spot hz
       refine⟨v,?_,?_,?_,hspot,World.block_lt_of_cell? _ _ hz⟩
       ·rw[←hc,Addr.add_of hspot,Addr.add_lit,hlen]
       ·have:vu (qv9 (elems.map (·.1))) r j=u:=by
         rw[qkZ]
         unfold vu
         rw[Int.toNat_natCast,hget r hr]
         simp[List.getD_eq_getElem?_getD,e1]
        rw[this];exact e3
       ·simp[List.getD_eq_getElem?_getD,e1];exact e4
      have hrl:(qv9 (elems.map (·.1))).length=len:=by rw[qkZ];simp[hlen]
      have hsh0:0<len→0<she.length:=by
       intro hl0
       obtain⟨cs',g1,g2⟩:=hrow 0 hl0
       obtain⟨_,g4,_⟩:=World.cells?_some g1
       rw[←g2.len.2,g4];exact hpos
      refine .cons ?_ (.sl _ _ (by rw[hrl];omega) ?_ ?_) .nil
      ·have hR:=qed (w:=W) (M:=fun b=>b<W.heap.size) (row:=she) (l:=qv9 (elems.map (·.1))) (v:=.slice (some a) len cap) (.inr ⟨a,cap,by rw[hrl],fun h0=>by
        rw[hrl] at h0
        obtain⟨_,_,_,_,h4,_⟩:=hcell 0 0 she[0] h0 (List.getElem?_eq_getElem (hsh0 h0))
        exact h4,by rw[hrl];exact hlc,fun r j hj hr=>by
        rw[hrl] at hr
        obtain⟨v,h1,h2,_,_,h5⟩:=hcell r j she[j] hr (List.getElem?_eq_getElem hj)
        exact⟨h5,v,h1,h2⟩⟩)
       exact hR
      ·intro r hr
       rw[qkZ] at hr
       obtain⟨i,hi⟩:=List.getElem?_of_mem hr
       have hil:i<len:=by have:=qt hi;simpa[hlen] using this
       have:r=qog (elems[i]'(by omega)).1:=by
        rw[←hget i hil,List.getD_eq_getElem?_getD,hi];rfl
       obtain⟨cs',g1,g2⟩:=hrow i hil
       rw[this];exact g2.len.1
      ·intro r j s u hr hs hu
       rw[qkZ] at hr
       obtain⟨i,hi⟩:=List.getElem?_of_mem hr
       have hil:i<len:=by have:=qt hi;simpa[hlen] using this
       have:r=qog (elems[i]'(by omega)).1:=by
        rw[←hget i hil,List.getD_eq_getElem?_getD,hi];rfl
       subst this
       obtain⟨_,_,_,h3,_⟩:=hcell i j s hil hs
       simpa[List.getD_eq_getElem?_getD,hu] using h3
   ·
    rename_i m e es
    obtain⟨ht,rfl⟩:=qcd hE hd
    cases he:E.shape n e with
    | none=>rw[he] at hsh;cases hsh
    | some she=>
     rw[he] at hsh
     cases hsh
     obtain⟨xs,m0,hf,hx,hcl,hxl,hel⟩:=DataW.trod_array ht h
     cases hf
     cases hx
     have hsz:m*P.cellsOf e=cs.length:=by
      rw[hcl]
      have h1:=Nat.eq_of_beq_eq_true hl
      obtain⟨_,i,dd,h2,_,_,h4,_⟩:=q0Z hE (t:=t) (by rw[hd];rfl)
      rw[h1,h4]
      unfold Program.cellsOf
      rw[h2];rfl
     have:=qvI (cs:=cs) he (fun t cs d ps sh h1 h2=>ih n t cs d ps sh h1 h2) m 0 xs (by simpa using hsz) hxl (fun i hi=>by simpa using hel i hi)
     simpa[qog] using this
   ·
    rename_i fs
    obtain⟨fields,ht,rfl⟩:=q7L hE hd
    cases hm:(fields.toList.map fun f=>(f.offset,f.type,P.cellsOf f.type)).mapM fun f=>E.shape n f.2.1 with
    | none=>rw[hm] at hsh;cases hsh
    | some shs=>
     rw[hm] at hsh
     cases hsh
     obtain⟨xs,m0,hf,hx,hcl,hxl,hel⟩:=DataW.trod_struct ht h
     cases hf
     cases hx
     simp only[Bool.and_eq_true] at hl
     have hsz:qzo (fields.toList.map fun f=>(f.offset,f.type,P.cellsOf f.type))=cs.length:=by
      rw[hcl]
      have h1:=Nat.eq_of_beq_eq_true hl.2
      obtain⟨_,i,dd,h2,_,_,h4,_⟩:=q0Z hE (t:=t) (by rw[hd];rfl)
      rw[h1,h4]
      unfold Program.cellsOf
      rw[h2];rfl
     have:=qsA (cs:=cs) (fun t cs d ps sh h1 h2=>ih n t cs d ps sh h1 h2) _ 0 xs shs hl.1 (by simpa using hsz) hm (by simpa using hxl) (fun i f hf=>by
      rw[List.getElem?_map] at hf
      cases hfi:fields.toList[i]? with
      | none=>rw[hfi] at hf;cases hf
      | some g=>
       rw[hfi] at hf
       cases hf
       exact hel i g (by simpa using hfi))
     simpa[qog] using this
end
end Go.Eng

namespace Go.Eng
open Go.RowKit
inductive UFits:List Sh→List U→Prop
 | nil:UFits [] []
 | cons {s:Sh} {u:U} {sh:List Sh} {us:List U} (h:UFit s u) (t:UFits sh us):UFits (s::sh) (u::us)
theorem CR.fits{W:World}{M:Nat→Prop}{a:List Sh}{b:List U}{c:List Value}(h:CR W M a b c):UFits a b:=by
 induction h with
 | nil=>exact .nil
 | cons h f t ih=>exact .cons f ih
def q9h:List Sh→List U→List AV
 | .int k::sh,u::us=>.int k u.toI::q9h sh us
 | .bool::sh,u::us=>.bool u.toB::q9h sh us
 | .str::sh,u::us=>.str u.toS::q9h sh us
 | .sl row::sh,u::us=>.imm row u.toR::q9h sh us
 | _,_=>[]
theorem qA8{X:Ctx}{sh:List Sh}{us:List U}{vs:List Value}(h:CR X.w X.M sh us vs):RepL X (q9h sh us) vs:=by
 induction h with
 | nil=>exact .nil
 | cons h f t ih=>
  rename_i s u v sh us vs
  cases s with
  | int k=>cases h;exact .cons (.int _ _) ih
  | bool=>cases h;exact .cons (.bool _) ih
  | str=>cases h;exact .cons (.str _) ih
  | sl row=>exact .cons (.imm _ _ _ (qkx h)) ih
def qx7(agg:Bool)(sh:List Sh)(us:List U):AV:=match agg with
 | true=>.agg (q9h sh us)
 | false=>(q9h sh us).headD .undef
section
variable {H:Type} {enc:TypeId×Value→H} {P:Program} {W:World} {base:Nat} {sp:Nat→Bool} {held:Bool} {E:Env}
theorem qBy(hE:E.tok P)(hlay:E.tt.all (fun x=>qwX x.2)=true){X:Ctx}(hw:X.w=W)(hM:X.M=fun b=>b<W.heap.size){r:Reach}{b0:Nat}{n:Nat}{t:TypeId}{v:Value}{d:DataW H}{ps:List MemPlace}{sh:List Sh}
  (hsh:E.shape n t=some sh) (hv:Value.okWide P W r b0 t v) (hd:DataW.Trod enc P W base sp held t v d ps):UFits sh (qog d)∧Rep X (qx7 (E.ty t).d.isAgg sh (qog d)) v:=by
 obtain⟨fuel,hf⟩:=hd
 have hc:=qyh hE hlay fuel n t _ d ps sh hsh hf
 refine⟨hc.fits,?_⟩
 have hr:RepL X (q9h sh (qog d)) v.cells.toList:=qA8 (by rw[hw,hM];exact hc)
 have hone:∀(_:(E.ty t).d.isAgg=false),v.cells=#[v]→Rep X (qx7 (E.ty t).d.isAgg sh (qog d)) v:=by
  intro ha hcell
  rw[ha]
  rw[hcell] at hr
  simp only[qx7]
  generalize q9h sh (qog d)=l at hr
  cases hr with
  | cons h1 h2=>simpa using h1
 unfold Value.okWide at hv
 cases n with
 | zero=>simp[Env.shape] at hsh
 | succ n=>
  simp only[Env.shape] at hsh
  cases hd:(E.ty t).d<;>rw[hd] at hsh hone<;>simp only at hsh<;>try (cases hsh)
  ·rw[qpF hE hd] at hv
   refine hone rfl ?_
   cases v<;>simp[Cell.okWide,qpF hE hd,Cell.ok] at hv<;>rfl
  ·rw[qoT hE hd] at hv
   refine hone rfl ?_
   cases v<;>simp[Cell.okWide,qoT hE hd,Cell.ok] at hv<;>rfl
  ·rw[qiJ hE hd] at hv
   refine hone rfl ?_
   cases v<;>simp[Cell.okWide,qiJ hE hd,Cell.ok] at hv<;>rfl
  ·rw[(q19 hE hd).1] at hv
   refine hone rfl ?_
   cases v<;>simp[Cell.okWide,(q19 hE hd).1,Cell.ok] at hv<;>rfl
  ·rw[(qcd hE hd).1] at hv
   obtain⟨cs,rfl,_,_⟩:=hv
   simp only[TD.isAgg,qx7]
   exact .agg _ _ (by simpa[Value.cells] using hr)
  ·obtain⟨fields,ht,_⟩:=q7L hE hd
   rw[ht] at hv
   obtain⟨cs,rfl,_,_⟩:=hv
   simp only[TD.isAgg,qx7]
   exact .agg _ _ (by simpa[Value.cells] using hr)
end
def qAe(W:World):Ctx:={ σ:=fun _=>none,h:=[],w:=W,M:=fun b=>b<W.heap.size }
def qzJ(W:World):Base:={ w0:=W,imps:=[],M0:=fun b=>b<W.heap.size,fs:=[] }
theorem qGK(W:World):HSim (qzJ W) (qAe W):=by
 have hno:∀b n,¬(qAe W).own b n:=by
  intro b n ⟨h,_⟩;cases h
 refine⟨fun b k h=>?_,fun b b' n h=>absurd h (hno b n),fun b n h=>absurd h (hno b n),fun n h=>h,fun n h=>h,fun n h=>.inl h,rfl,rfl,rfl,Nat.le_refl _,fun _ _ _=>rfl,fun b h=>?_,fun b h=>?_,fun b n h=>absurd h (hno b n),fun p hp=>by cases hp⟩
 ·have:([]:List Blk)[b]?=some k:=h
  simp at this
 ·exact absurd h (by simp[qzJ])
 ·exact absurd h (by simp[qzJ])
theorem qGi(W:World):Entry (qzJ W) (qAe W):=⟨rfl,rfl,fun _ h=>h⟩
theorem qBe{P:Program}{gl:List (Nat×AV)}{f:FuncId}{G:q1h}(hG:qS P gl f G){W:World}(hgl:qe4 gl (qAe W)){args:List AV}{vargs:List Value}(ha:RepL (qAe W) args vargs)
  (h:(G args []).run=some (.bool true,[])):Calls P f vargs.toArray W fun e W'=>e=.returned (.bool true)∧Below W.heap.size W W':=by
 refine(hG.2 (qzJ W) (qAe W) args vargs _ (qGK W) (qGi W) hgl ha h).mono fun e W' ⟨v,X',e1,e2,e3,e4,e5,_⟩=>?_
 subst e2
 refine⟨?_,e5.os,e5.tape,e5.output,e5.size,fun k hk=>e5.frame k hk (by simp[qzJ])⟩
 rw[e1]
 cases e3;rfl
theorem qAp{i:FIn}{outs:List FOut}{T:List PV→TR}{args:List AV}{ps:List PV}(ho:outs=[{ res:=.bool,h:=[] }])(hi:i.take args []=some ps)(hT:(T ps).run=some (0,[.b true])) :
  (q9 i outs T args []).run=some (.bool true,[]):=by
 subst ho
 unfold q9
 rw[hi]
 simp only[Tree.run,okR,hT,Option.isSome_some]
 simp only[qFn,FOut.kinds,AP.kinds,BP.kindsL,List.append_nil,qoj,gB,pR,hT,List.getD_cons_zero,PV.toB,FOut.make,AP.make,BP.makeL,Tree.run]
theorem qCG{P:Program}{W:World}{E:Env}(hE:E.tok P)(hlay:E.tt.all (fun x=>qwX x.2)=true){name:String}{g n:Nat}{t:TypeId}{d:DataW Unit}{sh:List Sh}
  (hg:P.globalNamed name=some g) (hty:(P.globals[g]?).map (·.type)=some t) (hsh:E.shape n t=some sh) {ds:List (String×DataW Unit)} (h:laidMet P ds W) (hm:(name,d)∈ds) :
  qCX (qAe W) (g,.eptr sh [qog d] 0 0):=by
 obtain⟨ps,hl,_⟩:=h
 have key:∀(ds:List (String×DataW Unit)) (ps:List MemPlace),DataW.LaidVars P W ds ps→(name,d)∈ds→∃cs fuel p,W.var? P name=some cs∧DataW.trod (fun _=>()) P W 0 (fun _=>true) false fuel t cs.toList=some (d,p):=by
  intro ds
  induction ds with
  | nil=>intro ps _ h;cases h
  | cons x ds ih=>
   intro ps hl hm
   obtain⟨nm,dd⟩:=x
   obtain⟨g',t',cs,fuel,p,q,h1,h2,h3,h4,h5,_⟩:=hl
   rcases List.mem_cons.1 hm with he|hm
   ·cases he
    obtain rfl:=Option.some.inj (hg.symm.trans h1)
    obtain rfl:=Option.some.inj (hty.symm.trans h2)
    exact⟨cs,fuel,p,h3,h4⟩
   ·exact ih q h5 hm
 obtain⟨cs,fuel,p,h3,h4⟩:=key ds ps hl hm
 have hc:=qyh hE hlay fuel n t _ d p sh hsh h4
 have hheap:∃T fr,W.heap[g]?=some (.cells cs T fr):=by
  unfold World.var? at h3
  rw[hg] at h3
  simp only[Option.bind_some] at h3
  split at h3
  ·rename_i cs' T fr he
   cases h3
   exact⟨T,fr,he⟩
  ·cases h3
 suffices hs:Rows (qAe W).w (qAe W).M sh [qog d] ⟨g,0,none⟩ by
  refine⟨?_,?_,?_⟩
  ·have:=Rep.eptr (X:=qAe W) sh [qog d] 0 0 ⟨g,0,none⟩ rfl (Int.le_refl _) (by simp) hs
   simpa using this
  ·obtain⟨T,fr,he⟩:=hheap
   exact(Array.getElem?_eq_some_iff.1 he).1
  ·have:=World.var?_cell hg h3 sh.length
   show W.cell? ⟨g,sh.length*1,none⟩=none
   rw[Nat.mul_one,this,Array.getElem?_eq_none]
   rw[←Array.length_toList,hc.len.2]
   exact Nat.le_refl _
 intro r j hj hr
 have hr0:r=0:=by simpa using hr
 subst hr0
 obtain⟨u,v,e1,e2,e3,_⟩:=hc.get j sh[j] (List.getElem?_eq_getElem hj)
 have hcell:W.cell? ⟨g,j,none⟩=some v:=by
  have:=World.var?_cell hg h3 j
  rw[this];simpa using e2
 refine⟨World.block_lt_of_cell? W ⟨g,j,none⟩ hcell,v,?_,?_⟩
 ·rw[Nat.zero_mul,Nat.add_zero,Nat.zero_add];exact hcell
 have:vu [qog d] (0:Nat) j=u:=by simp[vu,List.getD_eq_getElem?_getD,e1]
 rw[this];exact e3
theorem UFits.int{k:IntKind}{sh:List Sh}{us:List U}(h:UFits (.int k::sh) us):∃n us',us=.i n::us'∧k.min≤n∧n≤k.max∧UFits sh us':=by
 cases h with
 | cons h t=>cases h with
  | int k n h0 h1=>exact⟨n,_,rfl,h0,h1,t⟩
theorem UFits.bool{sh:List Sh}{us:List U}(h:UFits (.bool::sh) us):∃b us',us=.b b::us'∧UFits sh us':=by
 cases h with
 | cons h t=>cases h with
  | bool b=>exact⟨b,_,rfl,t⟩
theorem UFits.str{sh:List Sh}{us:List U}(h:UFits (.str::sh) us):∃s us',us=.s s::us'∧s.length≤maxLen∧UFits sh us':=by
 cases h with
 | cons h t=>cases h with
  | str s h0=>exact⟨s,_,rfl,h0,t⟩
theorem UFits.sl{row sh:List Sh}{us:List U}(h:UFits (.sl row::sh) us):∃l us',us=.l l::us'∧UFit (.sl row) (.l l)∧UFits sh us':=by
 cases h with
 | cons h t=>
  rename_i u us
  cases u with
  | l x=>exact⟨x,_,rfl,h,t⟩
  | _=>cases h
theorem UFits.none{us:List U}(h:UFits [] us):us=[]:=by cases h;rfl
end Go.Eng

namespace Go.Eng
theorem qh3{α:Type}(b:Bool)(t e:Tree α):(Tree.br b t e).run=if b=true then t.run else e.run:=by cases b<;>rfl
theorem q5J{α:Type}(a:α):(Tree.leaf a).run=some a:=rfl
theorem qDf{α:Type}:(Tree.fail:Tree α).run=none:=rfl
theorem qnj{R:TR}{x:Nat×List PV}(h:R.run=some x):okR R=true:=by simp[okR,h]
theorem quR{R:TR}{j:Nat}{ps:List PV}(h:R.run=some (j,ps))(i:Nat):pR R i=ps.getD i (.i 0):=by simp[pR,h]
theorem z7{x y:Int}(h:-9223372036854775808≤x+y∧x+y≤9223372036854775807):ql .i64 x y=x+y:=by
 unfold ql IntKind.wrap
 simp[IntKind.signed,IntKind.bits];omega
theorem zT{x y:Int}(h:-9223372036854775808≤x-y∧x-y≤9223372036854775807):qv .i64 x y=x-y:=by
 unfold qv IntKind.wrap
 simp[IntKind.signed,IntKind.bits];omega
theorem q17{x y:Int}(h:-9223372036854775808≤x*y∧x*y≤9223372036854775807):yM .i64 x y=x*y:=by
 unfold yM IntKind.wrap
 simp[IntKind.signed,IntKind.bits];omega
theorem qpV(x y:Int):(ieq x y=true)=(x=y):=by simp[ieq]
theorem qsV(x y:Int):(ine x y=true)=(x≠y):=by simp[ine]
theorem qnd(x y:Int):(ilt x y=true)=(x<y):=by simp[ilt]
theorem qcT(x y:Int):(ile x y=true)=(x≤y):=by simp[ile]
theorem qto(x y:Bool):(Go.Eng.beq x y=true)=(x=y):=by simp[Go.Eng.beq]
theorem qCT{a b A B:Int}(h1:-A≤a)(h2:a≤A)(h3:-B≤b)(h4:b≤B):-(A*B)≤a*b∧a*b≤A*B:=by
 have e1:=Int.mul_nonneg (show 0≤A-a by omega) (show 0≤B-b by omega)
 have e2:=Int.mul_nonneg (show 0≤A+a by omega) (show 0≤B+b by omega)
 have e3:=Int.mul_nonneg (show 0≤A-a by omega) (show 0≤B+b by omega)
 have e4:=Int.mul_nonneg (show 0≤A+a by omega) (show 0≤B-b by omega)
 simp only[Int.sub_mul,Int.mul_sub,Int.add_mul,Int.mul_add] at e1 e2 e3 e4
 omega
theorem qul{x:Int}(h:-9223372036854775807≤x∧x≤9223372036854775807):qv .i64 0 x=-x:=by
 rw[zT (by omega)];omega
theorem qt2{x:Int}(h:-9223372036854775808≤x∧x≤9223372036854775807):vY .i64 x=x:=by
 unfold vY IntKind.wrap
 simp[IntKind.signed,IntKind.bits];omega
theorem qDV(b:Bool):((!b)=true)=¬(b=true):=by cases b<;>simp
theorem qD6(x y:Bool):(qwR x y=true)=(x=true∧y=true):=by simp[qwR]
theorem qFT(i n:Int):(inb i n=true)=(0≤i∧i<n):=by simp[inb]
theorem qEq(i n:Int):(q6A i n=true)=(0≤i∧i≤n):=by simp[q6A]
theorem STD:(∀(α:Type) (b:Bool) (t e:Tree α),(Tree.br b t e).run=if b=true then t.run else e.run)∧(∀(α:Type) (a:α),(Tree.leaf a).run=some a)∧(∀(α:Type),(Tree.fail:Tree α).run=none) ∧
  (∀R:TR,okR R=R.run.isSome)∧(∀(α:Type) (a:α),(some a).isSome=true)∧(∀(R:TR) (i:Nat),gI R i=(pR R i).toI)∧(∀(R:TR) (i:Nat),gB R i=(pR R i).toB)∧(∀(R:TR) (i:Nat),gS R i=(pR R i).toS)∧(∀(R:TR) (i:Nat),gR R i=(pR R i).toR) ∧
  (∀(R:TR) (i:Nat),pR R i=R.run.elim (.i 0) fun r=>r.2.getD i (.i 0))∧(∀(α β:Type) (b:β) (f:α→β) (a:α),(some a).elim b f=f a) ∧
  (∀(a:PV) (l:List PV) (d:PV),(a::l).getD 0 d=a)∧(∀(a:PV) (l:List PV) (d:PV) (n:Nat),(a::l).getD (n+1) d=l.getD n d) ∧
  (∀n,(PV.i n).toI=n)∧(∀b,(PV.b b).toB=b)∧(∀s,(PV.s s).toS=s)∧(∀l,(PV.r l).toR=l) ∧
  (∀(α:Type) (h:Decidable True) (a b:α),@ite α True h a b=a)∧(∀(α:Type) (h:Decidable False) (a b:α),@ite α False h a b=b)∧((false=true)=False)∧((true=false)=False)∧((true=true)=True) ∧
  (∀x y,(ieq x y=true)=(x=y))∧(∀x y,(ine x y=true)=(x≠y))∧(∀x y,(ilt x y=true)=(x<y))∧(∀x y,(ile x y=true)=(x≤y))∧(∀x y,(Go.Eng.beq x y=true)=(x=y)) ∧
  (∀x y,(qwR x y=true)=(x=true∧y=true))∧(∀b:Bool,((!b)=true)=¬(b=true))∧(∀i n,(inb i n=true)=(0≤i∧i<n))∧(∀i n,(q6A i n=true)=(0≤i∧i≤n)) ∧
  (∀(p:Prop) (_:Decidable p),(decide p=true)=p)∧(∀(α:Type) (a b:α),(a≠b)=¬(a=b))∧(¬True)=False∧(¬False)=True:=
 ⟨fun _=>qh3,fun _=>q5J,fun _=>qDf,fun _=>rfl,fun _ _=>rfl,fun _ _=>rfl,fun _ _=>rfl,fun _ _=>rfl,fun _ _=>rfl,fun R i=>by unfold pR;cases R.run<;>rfl,fun _ _ _ _ _=>rfl,
  fun _ _ _=>rfl,fun _ _ _ _=>rfl,fun _=>rfl,fun _=>rfl,fun _=>rfl,fun _=>rfl,fun _ _ _ _=>by simp,fun _ _ _ _=>by simp,by simp,by simp,by simp,qpV,qsV,qnd,qcT,qto,
  qD6,qDV,qFT,qEq,fun _ _=>by simp,fun _ _ _=>rfl,by simp,by simp⟩
theorem qD{R:TR}{j:Nat}{ps:List PV}(h:R.run=some (j,ps))(i:Nat):(jIs R i=true)=(j=i):=by simp[jIs,jR,h]
theorem run_bind{α β:Type}(t:Tree α)(f:α→Tree β):(t.bind f).run=t.run.bind fun a=>(f a).run:=by
 induction t with
 | leaf a=>rfl
 | br b t e iht ihe=>cases b<;>simp[Tree.bind,Tree.run,iht,ihe]
 | fail=>rfl
theorem qi8{S:List PV→TR}{n:Nat}{ps qs:List PV}(h:(S ps).run=some (0,qs)):(qkN S (n+1) ps).run=(qkN S n qs).run:=by
 simp[qkN,run_bind,h]
theorem q86{S:List PV→TR}{n j:Nat}{ps qs:List PV}(h:(S ps).run=some (j+1,qs)):(qkN S (n+1) ps).run=some (j,qs):=by
 simp[qkN,run_bind,h,Tree.run]
def jQ{α:Type}(f:Nat→Option α):Nat→Nat→Option α
 | _,0=>none
 | i,k+1=>match f i with
  | some a=>some a
  | none=>jQ f (i+1) k
theorem qs4{S:List PV→TR}(st:Nat→List PV)(f:Nat→Option (Nat×List PV))(fin:Nat×List PV)(n:Nat)
  (h1:∀i,i<n→f i=none→(S (st i)).run=some (0,st (i+1))) (h2:∀i r,i<n→f i=some r→(S (st i)).run=some (r.1+1,r.2))
  (h3:(S (st n)).run=some (fin.1+1,fin.2)):∀(k i m:Nat),i+k=n→k<m→(qkN S m (st i)).run=some ((jQ f i k).getD fin)
 | 0,i,m,hi,hm=>by
  obtain⟨m,rfl⟩:∃m',m=m'+1:=⟨m-1,by omega⟩
  have:i=n:=by omega
  subst this
  rw[q86 h3];rfl
 | k+1,i,m,hi,hm=>by
  obtain⟨m,rfl⟩:∃m',m=m'+1:=⟨m-1,by omega⟩
  cases hf:f i with
  | none=>
   rw[qi8 (h1 i (by omega) hf),qs4 st f fin n h1 h2 h3 k (i+1) m (by omega) (by omega)]
   simp[jQ,hf]
  | some r=>
   rw[q86 (h2 i r (by omega) hf)]
   simp[jQ,hf]
theorem qdM{S:List PV→TR}(st:Nat→List PV)(f:Nat→Option (Nat×List PV))(fin:Nat×List PV)(n:Nat)(hn:n<9223372036854775808)
  (h1:∀i,i<n→f i=none→(S (st i)).run=some (0,st (i+1))) (h2:∀i r,i<n→f i=some r→(S (st i)).run=some (r.1+1,r.2))
  (h3:(S (st n)).run=some (fin.1+1,fin.2)):(qg S (st 0)).run=some ((jQ f 0 n).getD fin):=
 qs4 st f fin n h1 h2 h3 n 0 qht (by omega) (Nat.lt_trans hn (by unfold qht;decide))
theorem v8{S:List PV→TR}(st:Nat→List PV)(fin:Nat×List PV)(n:Nat)(hn:n<9223372036854775808)
  (h1:∀i,i<n→(S (st i)).run=some (0,st (i+1))) (h3:(S (st n)).run=some (fin.1+1,fin.2)):(qg S (st 0)).run=some fin:=by
 have h:=qdM st (fun _=>none) fin n hn (fun i hi _=>h1 i hi) (fun i r _ h=>by cases h) h3
 have e:∀k i,jQ (fun _=>(none:Option (Nat×List PV))) i k=none:=by
  intro k;induction k with
  | zero=>intro i;rfl
  | succ k ih=>intro i;simp[jQ,ih]
 rw[e] at h;exact h
theorem q2Q{α:Type}{f:Nat→Option α}:∀{k i:Nat},jQ f i k=none→∀j,i≤j→j<i+k→f j=none
 | 0,i,_,j,h1,h2=>by omega
 | k+1,i,h,j,h1,h2=>by
  simp only[jQ] at h
  cases hf:f i with
  | some a=>rw[hf] at h;cases h
  | none=>
   rw[hf] at h
   rcases Nat.eq_or_lt_of_le h1 with rfl|h1
   ·exact hf
   ·exact q2Q h j h1 (by omega)
theorem qml{α:Type}{f g:Nat→Option α}:∀{k i:Nat},(∀j,i≤j→j<i+k→f j=g j)→jQ f i k=jQ g i k
 | 0,i,_=>rfl
 | k+1,i,h=>by
  simp only[jQ]
  rw[h i (by omega) (by omega),qml (fun j h1 h2=>h j (by omega) (by omega))]
theorem qoC{α β:Type}(g:α→β){f:Nat→Option α}:∀{k i:Nat},jQ (fun j=>(f j).map g) i k=(jQ f i k).map g
 | 0,i=>rfl
 | k+1,i=>by
  simp only[jQ]
  cases f i with
  | some a=>rfl
  | none=>exact qoC g
theorem kI{i n:Nat}(h:i<n)(hn:n<9223372036854775808):ql .i64 (i:Int) 1=((i+1:Nat):Int):=by
 rw[z7 (by omega)];omega
theorem qBU{α:Type}(n:Nat):∀i,jQ (fun _=>(none:Option α)) i n=none:=by
 induction n with
 | zero=>intro i;rfl
 | succ n ih=>intro i;simp[jQ,ih]
def pick(p:Nat→Bool):Nat→R
 | 0=>[]
 | n+1=>if p n then q6B (pick p n) [[.i (n:Int)]] else pick p n
theorem qtf(p:Nat→Bool):∀n,(pick p n).length≤n
 | 0=>Nat.le_refl _
 | n+1=>by
  have:=qtf p n
  unfold pick;split
  ·simp[q6B];omega
  ·omega
def qo0(f:Nat→Int)(i:Nat):Option Int:=if f i=0 then none else some (f i)
theorem qB0{f:Nat→Int}{n:Nat}(h:jQ (qo0 f) 0 n=none)(i:Nat)(hi:i<n):f i=0:=by
 have:=q2Q h i (by omega) (by omega)
 unfold qo0 at this;split at this
 ·assumption
 ·cases this
theorem qux{f:Nat→Int}:∀{k i:Nat} {e:Int},jQ (qo0 f) i k=some e→e≠0
 | 0,i,e,h=>by cases h
 | k+1,i,e,h=>by
  simp only[jQ] at h
  unfold qo0 at h
  by_cases h0:f i=0
  ·rw[if_pos h0] at h;exact qux h
  ·rw[if_neg h0] at h;simp at h;omega
def q5l(e:Nat→Int)(n:Nat):Int:=(jQ (qo0 e) 0 n).getD 0
theorem qpx{e:Nat→Int}{n:Nat}(h:q5l e n=0)(i:Nat)(hi:i<n):e i=0:=by
 unfold q5l at h
 cases hs:jQ (qo0 e) 0 n with
 | none=>exact qB0 hs i hi
 | some x=>rw[hs] at h;exact absurd h (qux hs)
theorem qBt{e:Nat→Int}{n:Nat}(h:∀i,i<n→e i=0):q5l e n=0:=by
 unfold q5l
 rw[qml (g:=fun _=>none) (fun j _ hj=>by unfold qo0;rw[if_pos (h j (by omega))]),qBU];rfl
theorem qej{S:List PV→TR}(st:Nat→List PV)(e:Nat→Int)(caps fin:List PV)(n:Nat)(hn:n<9223372036854775808)
  (h:∀i,i<n→(S (st i)).run=if e i=0 then some (0,st (i+1)) else some (2,.i (e i)::caps)) (h3:(S (st n)).run=some (1,fin)) :
  (qg S (st 0)).run=some (if q5l e n=0 then (0,fin) else (1,.i (q5l e n)::caps)):=by
 have key:=qdM st (fun i=>(qo0 e i).map fun x=>(1,PV.i x::caps)) (0,fin) n hn (fun i hi hf=>by
  rw[h i hi];unfold qo0 at hf;split at hf
  ·rename_i h0;rw[if_pos h0]
  ·simp at hf) (fun i r hi hf=>by
  rw[h i hi];unfold qo0 at hf;split at hf
  ·simp at hf
  ·rename_i h0;simp at hf;rw[if_neg h0,←hf]) h3
 rw[key,qoC]
 unfold q5l
 cases hs:jQ (qo0 e) 0 n with
 | none=>simp
 | some x=>simp[qux hs]
def qCk(g:Nat→List U)(n:Nat):R:=(List.range n).map g
theorem qvU(g:Nat→List U)(n:Nat):q6B (qCk g n) [g n]=qCk g (n+1):=by simp[q6B,qCk,List.range_succ]
theorem quu(g:Nat→List U)(n:Nat):(qCk g n).length=n:=by simp[qCk]
theorem qzI(g:Nat→List U){n i:Nat}(h:i<n)(j:Nat):vu (qCk g n) (i:Int) j=(g i).getD j (.i 0):=by
 unfold vu qCk
 simp[List.getD_eq_getElem?_getD,h]
theorem qC1(g:Nat→List U){n i:Nat}(h:i<n)(j:Nat):cI (qCk g n) (i:Int) j=((g i).getD j (.i 0)).toI:=by unfold cI;rw[qzI g h]
theorem qyX{l:R}{i:Nat}(h:i<l.length):(i:Int)<qh l:=by unfold qh;omega
theorem qy2(l:R):¬((l.length:Int)<qh l):=by unfold qh;omega
theorem jS(i:Nat):(0:Int)≤(i:Int):=by omega
theorem qDr(a:List U):qh [a]=1:=rfl
end Go.Eng

namespace Go.Eng
def dch(d:Nat):UInt8:=UInt8.ofNat (48+d)
def dv(c:UInt8):Nat:=c.toNat-48
def q6z(s:List UInt8):Prop:=∀c,c∈s→48≤c.toNat∧c.toNat≤57
def val(s:List UInt8):Nat:=s.foldl (fun a c=>10*a+dv c) 0
def tNf:Nat→Nat→List UInt8
 | 0,_=>[]
 | f+1,n=>if n<10 then [dch n] else tNf f (n/10)++[dch (n%10)]
def tN(n:Nat):List UInt8:=tNf (n+1) n
def tI(n:Int):List UInt8:=if n<0 then 45::tN n.natAbs else tN n.natAbs
theorem q2S{d:Nat}(h:d<10):(dch d).toNat=48+d:=by
 unfold dch;rw[UInt8.toNat_ofNat'];omega
theorem qnD{d:Nat}(h:d<10):dv (dch d)=d:=by unfold dv;rw[q2S h];omega
theorem qE7{c:UInt8}(h1:48≤c.toNat)(h2:c.toNat≤57):dch (dv c)=c:=by
 apply UInt8.toNat_inj.1
 rw[q2S (by unfold dv;omega)];unfold dv;omega
theorem qlv(s:List UInt8)(c:UInt8):val (s++[c])=10*val s+dv c:=by simp[val,List.foldl_append]
theorem qpf:∀(t:List UInt8) (a:Nat),t.foldl (fun a c=>10*a+dv c) a=a*10^t.length+val t
 | [],a=>by simp[val]
 | c::t,a=>by
  have h1:=qpf t (10*a+dv c)
  have h2:=qpf t (10*0+dv c)
  have h3:val (c::t)=t.foldl (fun a c=>10*a+dv c) (10*0+dv c):=rfl
  rw[h3,h2,List.foldl_cons,h1,List.length_cons,Nat.pow_succ]
  grind
theorem qtX(s t:List UInt8):val (s++t)=val s*10^t.length+val t:=by
 have h:val (s++t)=t.foldl (fun a c=>10*a+dv c) (val s):=by simp[val,List.foldl_append]
 rw[h,qpf]
theorem q6j(c:UInt8)(t:List UInt8):val (c::t)=dv c*10^t.length+val t:=by
 have:=qtX [c] t
 simpa[val] using this
theorem qei:val []=0:=rfl
theorem qwA(c:UInt8):val [c]=dv c:=by simp[val]
theorem qoB:q6z []:=fun c h=>by cases h
theorem q0t{c:UInt8}{s:List UInt8}:q6z (c::s)↔(48≤c.toNat∧c.toNat≤57)∧q6z s:=by
 unfold q6z;simp
theorem q9w{s t:List UInt8}:q6z (s++t)↔q6z s∧q6z t:=by
 unfold q6z;simp only[List.mem_append]
 exact⟨fun h=>⟨fun c hc=>h c (.inl hc),fun c hc=>h c (.inr hc)⟩,fun h c hc=>hc.elim (h.1 c) (h.2 c)⟩
theorem qA6{c:UInt8}(h:48≤c.toNat∧c.toNat≤57):dv c<10:=by unfold dv;omega
theorem q6F:∀{s:List UInt8},q6z s→val s<10^s.length
 | [],_=>by simp[val]
 | c::s,h=>by
  obtain⟨h1,h2⟩:=q0t.1 h
  have ih:=q6F h2
  have hd:=qA6 h1
  rw[q6j,List.length_cons,Nat.pow_succ]
  have:dv c*10^s.length≤9*10^s.length:=Nat.mul_le_mul_right _ (by omega)
  omega
theorem qtu{d:Nat}(h:d<10):q6z [dch d]:=by
 intro c hc
 simp at hc;subst hc
 rw[q2S h];omega
theorem qEc:∀(f g n:Nat),n<f→n<g→tNf f n=tNf g n
 | 0,_,n,h,_=>by omega
 | _,0,n,_,h=>by omega
 | f+1,g+1,n,h1,h2=>by
  unfold tNf
  by_cases h:n<10
  ·rw[if_pos h,if_pos h]
  ·rw[if_neg h,if_neg h,qEc f g (n/10) (by omega) (by omega)]
theorem qvb{n:Nat}(h:n<10):tN n=[dch n]:=by unfold tN tNf;rw[if_pos h]
theorem qwC{n:Nat}(h:10≤n):tN n=tN (n/10)++[dch (n%10)]:=by
 have:tN n=tNf n (n/10)++[dch (n%10)]:=by
  show tNf (n+1) n=_
  rw[tNf,if_neg (by omega)]
 rw[this,qEc n (n/10+1) (n/10) (by omega) (by omega)];rfl
theorem qsR(n:Nat):q6z (tN n)∧tN n≠[]∧val (tN n)=n:=by
 induction n using Nat.strongRecOn with
 | _ n ih=>
  by_cases h:n<10
  ·rw[qvb h];exact⟨qtu h,by simp,by rw[qwA,qnD h]⟩
  ·rw[qwC (by omega)]
   obtain⟨h1,h2,h3⟩:=ih (n/10) (by omega)
   refine⟨q9w.2 ⟨h1,qtu (by omega)⟩,by simp,?_⟩
   rw[qlv,h3,qnD (by omega)];omega
theorem w9(n:Nat):q6z (tN n):=(qsR n).1
theorem qp0(n:Nat):tN n≠[]:=(qsR n).2.1
theorem q0H(n:Nat):val (tN n)=n:=(qsR n).2.2
theorem qiw(n:Nat):0<(tN n).length:=List.length_pos_iff.2 (qp0 n)
theorem q5y:∀(k n:Nat),n<10^(k+1)→(tN n).length≤k+1
 | 0,n,h=>by rw[qvb (by simpa using h)];simp
 | k+1,n,h=>by
  by_cases h10:n<10
  ·rw[qvb h10];simp
  ·rw[qwC (by omega),List.length_append]
   have:=q5y k (n/10) (by rw[Nat.pow_succ] at h;omega)
   simp;omega
theorem qvk:∀(k n:Nat),10^k≤n→k<(tN n).length
 | 0,n,_=>qiw n
 | k+1,n,h=>by
  have hp:0<10^k:=Nat.pow_pos (by omega)
  rw[Nat.pow_succ] at h
  rw[qwC (by omega),List.length_append]
  have:=qvk k (n/10) (by omega)
  simp;omega
theorem q5G{k n:Nat}(h:(tN n).length≤k):n<10^k:=by
 have:=q6F (w9 n)
 rw[q0H] at this
 exact Nat.lt_of_lt_of_le this (Nat.pow_le_pow_right (by omega) h)
def qGQ(s:List UInt8):Prop:=s.length=1∨s.getD 0 0≠48
theorem qyP{s:List UInt8}(hd:q6z s)(hn:s≠[])(h:s.getD 0 0≠48):10^(s.length-1)≤val s:=by
 cases s with
 | nil=>exact absurd rfl hn
 | cons c s=>
  obtain⟨h1,h2⟩:=q0t.1 hd
  simp at h
  have hc:1≤dv c:=by
   unfold dv
   have:c.toNat≠48:=fun e=>h (UInt8.toNat_inj.1 (by simpa using e))
   omega
  rw[q6j,List.length_cons,Nat.add_sub_cancel]
  have:1*10^s.length≤dv c*10^s.length:=Nat.mul_le_mul_right _ hc
  omega
theorem qE6:∀(n:Nat) {s:List UInt8},s.length=n+1→q6z s→qGQ s→tN (val s)=s
 | 0,s,hl,hd,_=>by
  match s,hl with
  | [c],_=>
   have h1:=(q0t.1 hd).1
   rw[qwA,qvb (qA6 h1),qE7 h1.1 h1.2]
 | n+1,s,hl,hd,hz=>by
  obtain⟨i,c,rfl⟩:∃i c,s=i++[c]:=⟨s.dropLast,s.getLast (by intro h;simp[h] at hl),(List.dropLast_concat_getLast _).symm⟩
  have hil:i.length=n+1:=by simpa using hl
  obtain⟨h1,h2⟩:=q9w.1 hd
  have hc:=(q0t.1 h2).1
  have hi:i≠[]:=by intro h;simp[h] at hil
  have hz0:i.getD 0 0≠48:=by
   rcases hz with hz|hz
   ·exact absurd (by simpa using hz) hi
   ·cases i with
    | nil=>exact absurd rfl hi
    | cons a i=>simpa using hz
  have hv:1≤val i:=Nat.le_trans (Nat.one_le_pow _ _ (by omega)) (qyP h1 hi hz0)
  have hd10:=qA6 hc
  rw[qlv,qwC (n:=10*val i+dv c) (by omega),show (10*val i+dv c)/10=val i by omega,show (10*val i+dv c)%10=dv c by omega,qE7 hc.1 hc.2,qE6 n hil h1 (.inr hz0)]
theorem qoS{s:List UInt8}(hd:q6z s)(hn:s≠[])(hz:qGQ s):s=tN (val s):=
 (qE6 (s.length-1) (by have:=List.length_pos_iff.2 hn;omega) hd hz).symm
theorem qsw{m n:Nat}(h:tN m=tN n):m=n:=by rw[←q0H m,h,q0H]
theorem qB5(n:Nat):qGQ (tN n):=by
 induction n using Nat.strongRecOn with
 | _ n ih=>
  by_cases h:n<10
  ·rw[qvb h];exact .inl rfl
  ·rw[qwC (by omega)]
   right
   by_cases h2:n/10<10
   ·rw[qvb h2]
    intro e
    have:(dch (n/10)).toNat=48:=by
     have e':dch (n/10)=48:=by simpa using e
     rw[e'];rfl
    rw[q2S h2] at this;omega
   ·have h3:(tN (n/10)).length≠1:=by
     have:=qvk 1 (n/10) (by omega);omega
    rcases ih (n/10) (by omega) with h4|h4
    ·exact absurd h4 h3
    ·cases hq:tN (n/10) with
     | nil=>exact absurd hq (qp0 _)
     | cons a i=>rw[hq] at h4;simpa using h4
theorem qEY(t:List UInt8):slt [] t=!t.isEmpty:=by cases t<;>rfl
theorem qDS(a b:UInt8)(s t:List UInt8):slt (a::s) (b::t)=(decide (a<b)||(a==b&&slt s t)):=by
 unfold slt
 simp only[Op.bytesLess]
theorem qxJ:∀{s t:List UInt8},q6z s→q6z t→s.length=t.length→((slt s t=true)=(val s<val t))
 | [],[],_,_,_=>by simp[qEY,qei]
 | a::s,b::t,h1,h2,hl=>by
  obtain⟨ha,hs⟩:=q0t.1 h1
  obtain⟨hb,ht⟩:=q0t.1 h2
  have hl':s.length=t.length:=by simpa using hl
  have ih:=qxJ hs ht hl'
  have v1:=q6F hs
  have v2:=q6F ht
  rw[qDS,q6j,q6j,hl']
  rw[hl'] at v1
  have hab:(a<b)=(dv a<dv b):=by
   unfold dv;rw[UInt8.lt_iff_toNat_lt];simp only[eq_iff_iff];omega
  have hab2:(a=b)=(dv a=dv b):=by
   unfold dv;rw[←UInt8.toNat_inj];simp only[eq_iff_iff];omega
  simp only[Bool.or_eq_true,decide_eq_true_eq,Bool.and_eq_true,beq_iff_eq,eq_iff_iff,ih,hab,hab2]
  generalize 10^t.length=p at *
  generalize dv a=x at *
  generalize dv b=y at *
  constructor
  ·rintro (h|⟨rfl,h⟩)
   ·have:=Nat.mul_le_mul_right p (show x+1≤y by omega)
    rw[Nat.add_mul] at this;omega
   ·omega
  ·intro h
   rcases Nat.lt_trichotomy x y with h3|h3|h3
   ·exact .inl h3
   ·subst h3;exact .inr ⟨rfl,by omega⟩
   ·have:=Nat.mul_le_mul_right p (show y+1≤x by omega)
    rw[Nat.add_mul] at this;omega
theorem uX{m n:Nat}(h:m≤n):(tN m).length≤(tN n).length:=by
 rcases Nat.lt_or_ge (tN n).length (tN m).length with h1|h1
 ·have h2:=q5G (Nat.le_refl (tN n).length)
  have h3:0<(tN n).length:=qiw n
  have:=q5y ((tN n).length-1) m (by rw[Nat.sub_add_cancel h3];omega)
  omega
 ·exact h1
theorem qx3(m n:Nat):((tN m).length<(tN n).length∨(tN m).length=(tN n).length∧slt (tN m) (tN n)=true)↔m<n:=by
 constructor
 ·rintro (h|⟨h1,h2⟩)
  ·rcases Nat.lt_or_ge m n with h3|h3
   ·exact h3
   ·have:=uX h3;omega
  ·rw[qxJ (w9 m) (w9 n) h1,q0H,q0H] at h2;exact h2
 ·intro h
  have h1:=uX (Nat.le_of_lt h)
  rcases Nat.lt_or_ge (tN m).length (tN n).length with h3|h3
  ·exact .inl h3
  ·have h4:(tN m).length=(tN n).length:=by omega
   exact .inr ⟨h4,by rw[qxJ (w9 m) (w9 n) h4,q0H,q0H];exact h⟩
theorem qyW(s:List UInt8):val (48::s)=val s:=by rw[q6j];simp[dv]
theorem qqc(n:Nat)(s:List UInt8):val (List.replicate n 48++s)=val s:=by
 induction n with
 | zero=>rfl
 | succ n ih=>rw[List.replicate_succ,List.cons_append,qyW,ih]
theorem qn1(n:Nat):q6z (List.replicate n 48):=by
 intro c hc
 rw[(List.mem_replicate.1 hc).2];decide
def rI(l:List Int):R:=l.map fun v=>[.i v]
theorem qkO(l:List Int):qh (rI l)=l.length:=by simp[qh,rI]
theorem qEQ(l:List Int)(i:Int):cI (rI l) i 0=l.getD i.toNat 0:=by
 unfold cI vu rI
 simp only[List.getD_eq_getElem?_getD,List.getElem?_map]
 cases l[i.toNat]?<;>rfl
theorem qzW(x v:U):quX [x] 0 [v]=[v]:=rfl
theorem quU(l:List Int)(i v:Int):qec (rI l) i 0 [.i v]=rI (l.set i.toNat v):=by
 unfold qec rI
 apply List.ext_getElem?
 intro j
 by_cases hj:j=i.toNat
 ·subst hj
  by_cases hl:i.toNat<l.length
  ·simp[hl,List.getD_eq_getElem?_getD,qzW]
  ·rw[List.getElem?_eq_none (by simp;omega),List.getElem?_eq_none (by simp;omega)]
 ·rw[List.getElem?_set_ne (Ne.symm hj),List.getElem?_map,List.getElem?_map,List.getElem?_set_ne (Ne.symm hj)]
theorem qjD(n v:Int):q3R n [.i v]=rI (List.replicate n.toNat v):=by simp[q3R,rI]
theorem qFJ(l:List Int):qib (rI l)=l.map fun v=>UInt8.ofNat v.toNat:=by
 unfold qib rI
 rw[List.map_map]
 rfl
theorem qFX(l:List Int)(i:Int)(s:List UInt8):qwy (rI l) i s=rI (l.take i.toNat++s.map (fun c=>(c.toNat:Int))++l.drop (i.toNat+s.length)):=by
 unfold qwy rI
 simp[List.map_take,List.map_drop]
theorem qmW(s:List UInt8):qib (rI (s.map fun c=>(c.toNat:Int)))=s:=by
 rw[qFJ,List.map_map]
 have:((fun v:Int=>UInt8.ofNat v.toNat)∘fun c:UInt8=>(c.toNat:Int))=id:=by
  funext c;simp
 rw[this,List.map_id]
theorem qq3{s:List UInt8}{i:Nat}(h:i<s.length):sat s (i:Int)=(s[i].toNat:Int):=by
 unfold sat
 simp[List.getD_eq_getElem?_getD,h]
theorem zW(s t:List UInt8):(seq s t=true)=(s=t):=by simp[seq]
theorem qFd{x:Int}(h:48≤x∧x≤255):qv .u8 x 48=x-48:=by
 unfold qv IntKind.wrap
 simp[IntKind.signed,IntKind.bits];omega
theorem qs6{x:Int}(h:0≤x∧x≤255):vY .u8 x=x:=by
 unfold vY IntKind.wrap
 simp[IntKind.signed,IntKind.bits];omega
theorem qow(a b:Nat):q6E (a:Int) (b:Int)=((a%b:Nat):Int):=by
 unfold q6E;rw[Int.tmod_eq_emod_of_nonneg (by omega)];rfl
theorem qyM{a b:Nat}(h:a<9223372036854775808):yY .i64 (a:Int) (b:Int)=((a/b:Nat):Int):=by
 unfold yY
 rw[Int.tdiv_eq_ediv_of_nonneg (by omega)]
 have:(a:Int)/(b:Int)=((a/b:Nat):Int):=rfl
 have h2:a/b≤a:=Nat.div_le_self a b
 rw[this]
 generalize a/b=q at *
 unfold IntKind.wrap
 simp[IntKind.signed,IntKind.bits];omega
theorem yl{S:List PV→TR}(I:Nat→List PV→Prop)(Q:Nat→List PV→Prop){n:Nat}(hn:n<9223372036854775808)
  (h:∀k ps,k≤n→I k ps→(∃k' qs,k'<k∧(S ps).run=some (0,qs)∧I k' qs)∨∃j qs,(S ps).run=some (j+1,qs)∧Q j qs) {ps:List PV} (h0:I n ps):∃j qs,(qg S ps).run=some (j,qs)∧Q j qs:=by
 have key:∀m k ps,k≤n→k<m→I k ps→∃j qs,(qkN S m ps).run=some (j,qs)∧Q j qs:=by
  intro m
  induction m with
  | zero=>intro k ps _ h;omega
  | succ m ih=>
   intro k ps hk hm hI
   rcases h k ps hk hI with⟨k',qs,h1,h2,h3⟩|⟨j,qs,h1,h2⟩
   ·obtain⟨j,rs,g1,g2⟩:=ih k' qs (by omega) (by omega) h3
    exact⟨j,rs,by rw[qi8 h2];exact g1,g2⟩
   ·exact⟨j,qs,q86 h1,h2⟩
 exact key qht n ps (Nat.le_refl _) (Nat.lt_trans hn (by unfold qht;decide)) h0
end Go.Eng

namespace Go.Eng
theorem qc1{m:Int}(h:m<0):tI m=45::tN m.natAbs:=by unfold tI;rw[if_pos h]
theorem qjN{m:Int}(h:¬m<0):tI m=tN m.natAbs:=by unfold tI;rw[if_neg h]
theorem q0K(n:Nat):tI (n:Int)=tN n:=by rw[qjN (by omega)];rfl
theorem qxP:tN 0=[48]:=rfl
theorem qhZ{s:List UInt8}(hd:q6z s)(hn:s≠[]):∃c t,s=c::t∧48≤c.toNat∧c.toNat≤57:=by
 cases s with
 | nil=>exact absurd rfl hn
 | cons c t=>exact⟨c,t,rfl,(q0t.1 hd).1⟩
theorem qw8(m:Int):(tI m).length≤(tN m.natAbs).length+1:=by unfold tI;split<;>simp
theorem qp6(m:Int):0<(tI m).length:=by
 have:=qiw m.natAbs
 unfold tI;split<;>simp<;>omega
theorem qvX{m n:Int}(h:tI m=tI n):m=n:=by
 have key:∀{m n:Int},m<0→¬n<0→tI m≠tI n:=by
  intro m n h1 h2 e
  rw[qc1 h1,qjN h2] at e
  obtain⟨c,t,hc,h3,h4⟩:=qhZ (w9 n.natAbs) (qp0 _)
  rw[hc] at e
  have:=(List.cons.inj e).1
  rw[←this] at h3
  exact absurd h3 (by decide)
 by_cases h1:m<0<;>by_cases h2:n<0
 ·rw[qc1 h1,qc1 h2] at h
  have:=qsw (List.cons.inj h).2
  omega
 ·exact absurd h (key h1 h2)
 ·exact absurd h.symm (key h2 h1)
 ·rw[qjN h1,qjN h2] at h
  have:=qsw h
  omega
theorem qyB(m:Int):(sat (tI m) 0=45)=(m<0):=by
 by_cases h:m<0
 ·rw[qc1 h];simp[sat,h]
 ·rw[qjN h]
  obtain⟨c,t,hc,h3,h4⟩:=qhZ (w9 m.natAbs) (qp0 _)
  rw[hc]
  simp[sat,h];omega
theorem wB(m:Int):(qz [.s (tI m)]).run=some (0,[.s (tN m.natAbs)]):=by
 rw[qsZ]
 have hp:=qp6 m
 have hne:¬tI m=[]:=fun h=>by rw[h] at hp;simp at hp
 have h1:(0:Int)<qu (tI m):=by unfold qu;omega
 have h2:(1:Int)≤qu (tI m):=by omega
 simp only[STD,zW,hne,h1,h2,qyB,Int.le_refl,show (0:Int)≤qu (tI m) by omega,and_self,show (0:Int)≤1 by omega]
 by_cases h:m<0
 ·rw[if_pos h,qc1 h];simp[qcK,qu]
 ·rw[if_neg h,qjN h]
theorem vK(m:Int):(qF [.s (tI m)]).run=some (0,[.b (decide (m<0))]):=by
 rw[qrM]
 have hp:=qp6 m
 have h1:(0:Int)<qu (tI m):=by unfold qu;omega
 have h2:ieq (sat (tI m) 0) 45=decide (m<0):=by
  have:=qyB m
  by_cases h:m<0<;>simp[ieq,h] at this ⊢<;>exact this
 simp only[STD,h1,h2,Int.le_refl,and_self]
theorem kJ(n:Nat)(b:Bool)(hl:(tN n).length≤100000000):(qN [.s (tN n),.b b]).run=some (0,[.s (tI (if b then -(n:Int) else n))]):=by
 rw[qpq]
 have h1:qu [45]+qu (tN n)≤140737488355328:=by show (1:Int)+((tN n).length:Int)≤_;omega
 have h0:(tN n=[48])=(n=0):=by
  rw[←qxP];exact propext ⟨fun h=>qsw h,fun h=>by rw[h]⟩
 simp only[STD,zW,h1,h0]
 cases b with
 | false=>simp[q0K]
 | true=>
  by_cases hn:n=0
  ·subst hn;simp[tI,qxP]
  ·have:(-(n:Int))<0:=by omega
   simp[hn,qc1 this,qdh]
theorem qcZ(m:Int)(hl:(tN m.natAbs).length≤100000000):(zM [.s (tI m)]).run=some (0,[.s (tI (-m))]):=by
 rw[qpz]
 simp only[STD,wB,vK,kJ _ _ hl]
 have e:(if ¬m<0 then -(m.natAbs:Int) else (m.natAbs:Int))=-m:=by
  by_cases h:m<0
  ·rw[if_neg (by simp[h])];omega
  ·rw[if_pos (by simp[h])];omega
 rw[e]
theorem qa3{s:List UInt8}{i:Nat}(h:i<s.length):val (s.take (i+1))=10*val (s.take i)+dv s[i]:=by
 rw[List.take_add_one,List.getElem?_eq_getElem h,Option.toList_some,qlv]
theorem quS{s:List UInt8}(h:q6z s)(i:Nat):q6z (s.take i):=fun c hc=>h c (List.mem_of_mem_take hc)
theorem qCO{s:List UInt8}(h:q6z s)(i:Nat):q6z (s.drop i):=fun c hc=>h c (List.mem_of_mem_drop hc)
theorem qox{s:List UInt8}(h:q6z s){i:Nat}(hi:i<s.length):48≤s[i].toNat∧s[i].toNat≤57:=h _ (List.getElem_mem hi)
theorem qxj{s:List UInt8}(h:q6z s){i:Nat}(hi:i<s.length):vY .i64 (qv .u8 (sat s (i:Int)) 48)=(dv s[i]:Int)∧dv s[i]<10:=by
 have hd:=qox h hi
 rw[qq3 hi,qFd (by omega),qt2 (by omega)]
 unfold dv;omega
theorem qiv(m:Int)(hl:(tN m.natAbs).length≤18):(u5 [.s (tI m)]).run=some (0,[.i m]):=by
 rw[qpX]
 have hd:=w9 m.natAbs
 have k:=v8 (S:=uU) (fun i=>[.s (tI m),.i (val ((tN m.natAbs).take i):Int),.s (tN m.natAbs),.i (i:Int)]) (0,[.s (tI m),.i (m.natAbs:Int)]) (tN m.natAbs).length (by omega) (fun i hi=>by
  rw[qe0]
  obtain⟨e1,e2⟩:=qxj hd hi
  have hv:=q6F (quS hd i)
  have hv2:10^((tN m.natAbs).take i).length≤100000000000000000:=Nat.le_trans (Nat.pow_le_pow_right (n:=10) (by omega) (show _≤17 by rw[List.length_take];omega)) (by decide)
  have hv3:=Nat.lt_of_lt_of_le hv hv2
  clear hv hv2
  have hlt:(i:Int)<qu (tN m.natAbs):=by unfold qu;omega
  have e3:ql .i64 (yM .i64 10 (val ((tN m.natAbs).take i):Int)) (dv (tN m.natAbs)[i]:Int)=((10*val ((tN m.natAbs).take i)+dv (tN m.natAbs)[i]:Nat):Int):=by
   rw[q17 (by omega),z7 (by omega)];omega
  simp only[STD,hlt,jS,and_self,e1,kI hi (by omega),qa3 hi,e3]) (by
  rw[qe0]
  have:¬((tN m.natAbs).length:Int)<qu (tN m.natAbs):=by unfold qu;omega
  simp only[STD,this,List.take_length,q0H])
 have k':(qg uU [.s (tI m),.i 0,.s (tN m.natAbs),.i 0]).run=_:=k
 have hm:m.natAbs<1000000000000000000:=Nat.lt_of_lt_of_le (q5G hl) (by decide)
 have hneg:m<0→qv .i64 0 (m.natAbs:Int)=m:=fun h=>by rw[qul (by omega)];omega
 have hpos:¬m<0→(m.natAbs:Int)=m:=fun h=>by omega
 clear hm k hd
 simp only[STD,wB,k',vK]
 by_cases h:m<0
 ·rw[if_pos h,hneg h]
 ·rw[if_neg h,hpos h]
theorem q5Z(m n:Int):(wj [.s (tI m),.s (tI n)]).run=some (0,if (tN m.natAbs).length≤18∧(tN n.natAbs).length≤18 then [.i m,.i n,.b true] else [.i 0,.i 0,.b false]):=by
 rw[qrz]
 have e:∀t:List UInt8,(18<qu t)=¬(t.length≤18):=fun t=>by unfold qu;simp only[eq_iff_iff];omega
 by_cases h1:(tN m.natAbs).length≤18
 ·by_cases h2:(tN n.natAbs).length≤18
  ·simp only[STD,wB,e,h1,h2,qiv m h1,qiv n h2,and_self]
  ·simp only[STD,wB,e,h1,h2,and_false]
 ·simp only[STD,wB,e,h1,false_and]
theorem qu7{d:Int}(h0:0≤d)(h:d<10):qib [[.i (vY .u8 (ql .i64 48 d))]]=[dch d.toNat]:=by
 rw[z7 (by omega),qs6 (by omega)]
 show [UInt8.ofNat (48+d).toNat]=[UInt8.ofNat (48+d.toNat)]
 rw[show (48+d).toNat=48+d.toNat by omega]
theorem qAI{S:List PV→TR}(hS:∀(y0:Int) (y1:List UInt8),S [.i y0,.s y1]=(.br (ilt 9 y0) (.br (ile ((qu (qib [[(.i (vY .u8 (ql .i64 48 (q6E y0 10))))]]))+(qu y1)) 140737488355328) (.leaf (0,[(.i (yY .i64 y0 10)),(.s (qdh (qib [[(.i (vY .u8 (ql .i64 48 (q6E y0 10))))]]) y1))])) .fail) (.leaf (1,[(.i y0),(.s y1)]))))
  (n:Nat) (hn:n<9223372036854775808):∃(a:Nat) (r:List UInt8),(qg S [.i (n:Int),.s []]).run=some (0,[.i (a:Int),.s r])∧a<10∧tN n=tN a++r:=by
 have hlen:(tN n).length≤19:=q5y 18 n (by omega)
 obtain⟨j,qs,h1,h2⟩:=yl (S:=S) (fun k ps=>∃(r:List UInt8),ps=[.i (k:Int),.s r]∧tN n=tN k++r) (fun j qs=>∃(a:Nat) (r:List UInt8),j=0∧qs=[.i (a:Int),.s r]∧a<10∧tN n=tN a++r) hn (fun k ps hk ⟨r,hps,ht⟩=>by
  subst hps
  by_cases h9:k<10
  ·right
   have:¬(9:Int)<(k:Int):=by omega
   exact⟨0,_,by rw[hS];simp only[STD,this],k,r,rfl,rfl,h9,ht⟩
  ·left
   have h9':(9:Int)<(k:Int):=by omega
   have hr:q6E (k:Int) 10=((k%10:Nat):Int):=qow k 10
   have hq:yY .i64 (k:Int) 10=((k/10:Nat):Int):=qyM (b:=10) (by omega)
   have hd:qib [[(.i (vY .u8 (ql .i64 48 (q6E (k:Int) 10))))]]=[dch (k%10)]:=by
    rw[hr,qu7 (by omega) (by omega)];rfl
   have hrl:r.length≤19:=by
    have:=congrArg List.length ht
    rw[List.length_append] at this;omega
   have hle:qu [dch (k%10)]+qu r≤140737488355328:=by
    show (1:Int)+(r.length:Int)≤_;omega
   refine⟨k/10,[.i ((k/10:Nat):Int),.s ([dch (k%10)]++r)],by omega,?_,_,rfl,?_⟩
   ·rw[hS];simp only[STD,h9',hd,hq,hle];rfl
   ·rw[ht,qwC (by omega),List.append_assoc]) (ps:=[.i (n:Int),.s []]) ⟨[],rfl,by simp⟩
 obtain⟨a,r,rfl,rfl,h3,h4⟩:=h2
 exact⟨a,r,h1,h3,h4⟩
theorem qBO{a:Nat}{r:List UInt8}(ha:a<10):qdh (qib [[(.i (vY .u8 (ql .i64 48 (a:Int))))]]) r=tN a++r:=by
 rw[qu7 (by omega) (by omega),qvb ha];rfl
theorem of_le{a:Nat}{r:List UInt8}(ha:a<10)(hr:r.length≤1000):qu (qib [[(.i (vY .u8 (ql .i64 48 (a:Int))))]])+qu r≤140737488355328:=by
 rw[qu7 (by omega) (by omega)]
 show (1:Int)+(r.length:Int)≤_;omega
theorem qE8{x:Int}(h1:-9223372036854775808<x)(h2:x≤9223372036854775807):qv .i64 0 x=-x:=qul (by omega)
theorem qFL(n:Nat)(hn:n<9223372036854775808):(q4X [.i (n:Int)]).run=some (0,[.s (tN n)])∧(zd [.i (n:Int)]).run=some (0,[.s (tN n)]):=by
 obtain⟨a,r,h1,h2,h3⟩:=qAI qrp n hn
 obtain⟨a',r',h1',h2',h3'⟩:=qAI qts n hn
 have hlen:(tN n).length≤19:=q5y 18 n (by omega)
 have hr:r.length≤1000:=by have:=congrArg List.length h3;rw[List.length_append] at this;omega
 have hr':r'.length≤1000:=by have:=congrArg List.length h3';rw[List.length_append] at this;omega
 have hneg:qv .i64 0 (n:Int)=-(n:Int):=qE8 (by omega) (by omega)
 have h0:((n:Int)=-(n:Int))=(n=0):=by simp only[eq_iff_iff];omega
 have hlt:¬(n:Int)<0:=by omega
 have hz:((n:Int)=0)=(n=0):=by simp only[eq_iff_iff];omega
 constructor
 ·rw[qwf]
  simp only[STD,hneg,h0,hz,hlt,h1,qBO h2,of_le h2 hr,←h3]
  by_cases h:n=0<;>simp[h]
 ·rw[qqk]
  simp only[STD,hneg,h0,hz,hlt,h1',qBO h2',of_le h2' hr',←h3']
  by_cases h:n=0<;>simp[h]
theorem uR(n:Int)(h1:-9223372036854775808<n)(h2:n≤9223372036854775807):(zd [.i n]).run=some (0,[.s (tI n)]):=by
 by_cases h:n<0
 ·obtain⟨a,ha⟩:∃a:Nat,n=-(a:Int):=⟨n.natAbs,by omega⟩
  subst ha
  have hneg:qv .i64 0 (-(a:Int))=(a:Int):=by rw[qE8 (by omega) (by omega)];omega
  have hlen:(tN a).length≤19:=q5y 18 a (by omega)
  have ht:=qcZ (a:Int) (by simp;omega)
  rw[q0K] at ht
  rw[qqk]
  have e1:¬(-(a:Int)=(a:Int)):=by omega
  simp only[STD,hneg,h,e1,(qFL a (by omega)).1,ht]
 ·obtain⟨a,rfl⟩:∃a:Nat,n=(a:Int):=⟨n.toNat,by omega⟩
  rw[(qFL a (by omega)).2,q0K]
theorem qh7(m n:Nat):(ka [.s (tN m),.s (tN n)]).run=some (0,[.b (decide (m<n))]):=by
 rw[qtl]
 have h:=qx3 m n
 have e1:(qu (tN m)<qu (tN n))=((tN m).length<(tN n).length):=by unfold qu;simp only[eq_iff_iff];omega
 have e2:(qu (tN m)=qu (tN n))=((tN m).length=(tN n).length):=by unfold qu;simp only[eq_iff_iff];omega
 simp only[STD,e1,e2]
 by_cases h1:(tN m).length<(tN n).length
 ·have:m<n:=h.1 (.inl h1)
  simp[h1,this]
 ·by_cases h2:(tN m).length=(tN n).length
  ·cases hs:slt (tN m) (tN n) with
   | true=>simp[h2,h.1 (.inr ⟨h2,hs⟩)]
   | false=>
    have:¬m<n:=fun hh=>by rcases h.2 hh with h3|⟨_,h3⟩<;>simp_all
    simp[h2,this]
  ·have:¬m<n:=fun hh=>by rcases h.2 hh with h3|⟨h3,_⟩<;>omega
   simp[h1,h2,this]
end Go.Eng

namespace Go.Eng
theorem qnl(s:List UInt8)(n:Nat)(h0:0<n)(hn:n≤1000000000)(hl:s.length≤n):(q2y [.s s,.i (n:Int)]).run=some (0,[.s (List.replicate (n-s.length) 48++s)]):=by
 rw[que]
 have k:=v8 (S:=q1X) (fun i=>[.s s,.i (n:Int),.i (i:Int),.r (rI (List.replicate i 48++List.replicate (n-i) 0))]) (0,[.s s,.i (n:Int),.r (rI (List.replicate n 48))]) n (by omega) (fun i hi=>by
  rw[qh1]
  have h1:(i:Int)<(n:Int):=by omega
  have h2:(i:Int)<qh (rI (List.replicate i 48++List.replicate (n-i) 0)):=by rw[qkO];simp;omega
  have h3:(List.replicate i (48:Int)++List.replicate (n-i) 0).set (i:Int).toNat 48=List.replicate (i+1) 48++List.replicate (n-(i+1)) 0:=by
   rw[Int.toNat_natCast,List.set_append_right _ _ (by simp),List.length_replicate,Nat.sub_self]
   rw[show n-i=(n-(i+1))+1 by omega,List.replicate_succ,List.set_cons_zero,List.replicate_succ']
   simp
  simp only[STD,h1,h2,jS,and_self,kI hi (by omega),quU,h3]) (by
  rw[qh1]
  simp only[STD,Int.lt_irrefl,Nat.sub_self,List.replicate_zero,List.append_nil])
 have k':(qg q1X [.s s,.i (n:Int),.i 0,.r (rI (List.replicate n 0))]).run=some (0,[.s s,.i (n:Int),.r (rI (List.replicate n 48))]):=by simpa using k
 have e1:qv .i64 (n:Int) (qu s)=((n-s.length:Nat):Int):=by
  rw[zT (by unfold qu;omega)];unfold qu;omega
 have e2:(0:Int)≤(n:Int):=by omega
 have e3:(n:Int)≤140737488355328:=by omega
 have e4:(0:Int)<qh (rI (List.replicate n 48)):=by rw[qkO,List.length_replicate];omega
 have e5:((n-s.length:Nat):Int)≤qh (rI (List.replicate n 48)):=by rw[qkO,List.length_replicate];omega
 have e6:qu s≤qxc (qh (rI (List.replicate n 48))) ((n-s.length:Nat):Int):=by rw[qkO,List.length_replicate];unfold qxc qu;omega
 have e7:qib (rI (List.take ((n-s.length:Nat):Int).toNat (List.replicate n 48)++s.map (fun c=>(c.toNat:Int))++List.drop (((n-s.length:Nat):Int).toNat+s.length) (List.replicate n 48)))=List.replicate (n-s.length) 48++s:=by
  rw[Int.toNat_natCast,List.take_replicate,List.drop_replicate,Nat.min_eq_left (by omega),show n-(n-s.length+s.length)=0 by omega,List.replicate_zero,List.append_nil]
  have:List.replicate (n-s.length) (48:Int)=(List.replicate (n-s.length) (48:UInt8)).map fun c=>(c.toNat:Int):=by rw[List.map_replicate];rfl
  rw[this,←List.map_append,qmW]
 simp only[STD,qjD,Int.toNat_natCast,e2,e3,and_self,k',e4,e5,e1,jS,e6,qFX]
 rw[Int.toNat_natCast] at e7
 rw[e7]
theorem qbV{s:List UInt8}(hd:q6z s)(hn:s≠[])(hl:s.length≤1000000000):(zQ [.s s]).run=some (0,[.s (tN (val s))]):=by
 rw[qtw]
 obtain⟨j,qs,h1,h2⟩:=yl (S:=q45) (fun k ps=>∃t:List UInt8,ps=[.s t]∧t.length=k∧q6z t∧t≠[]∧val t=val s) (fun j qs=>j=0∧qs=[.s (tN (val s))]) (n:=s.length) (by omega) (fun k ps hk ⟨t,hps,hlk,hdt,hnt,hv⟩=>by
  subst hps
  have hp:0<t.length:=List.length_pos_iff.2 hnt
  have hs0:(0:Int)<qu t:=by unfold qu;omega
  rw[qqi]
  by_cases h1:1<t.length
  ·have hs1:(1:Int)<qu t:=by unfold qu;omega
   obtain⟨c,u,rfl⟩:∃c u,t=c::u:=by
    cases t with
    | nil=>exact absurd rfl hnt
    | cons c u=>exact⟨c,u,rfl⟩
   have hsat:sat (c::u) 0=(c.toNat:Int):=by simp[sat]
   by_cases h48:c=48
   ·left
    subst h48
    have hu:u≠[]:=by intro h;subst h;simp at h1
    refine⟨u.length,[.s u],by simp at hlk;omega,?_,u,rfl,rfl,(q0t.1 hdt).2,hu,by rw[←hv,qyW]⟩
    have hsub:qcK (48::u) 1 (qu (48::u))=u:=by simp[qcK,qu]
    have h48':(((48:UInt8).toNat:Nat):Int)=48:=rfl
    simp only[STD,hs1,hs0,hsat,h48',Int.le_refl,and_self,Int.le_of_lt hs1,Int.le_of_lt hs0,show (0:Int)≤1 by omega,hsub]
   ·right
    have hne:¬((c.toNat:Int)=48):=fun h=>h48 (UInt8.toNat_inj.1 (by show c.toNat=48;omega))
    refine⟨0,[.s (c::u)],?_,rfl,?_⟩
    ·simp only[STD,hs1,hs0,hsat,hne,Int.le_refl,and_self]
    ·rw[←hv,←qoS hdt hnt (.inr (by simpa using h48))]
  ·right
   have hs1:¬(1:Int)<qu t:=by unfold qu;omega
   refine⟨0,[.s t],?_,rfl,?_⟩
   ·simp only[STD,hs1]
   ·rw[←hv,←qoS hdt hnt (.inl (by omega))]) (ps:=[.s s]) ⟨s,rfl,rfl,hd,hn,rfl⟩
 obtain⟨rfl,rfl⟩:=h2
 simp only[STD,h1]
theorem qDl{x y:UInt8}(hx:48≤x.toNat∧x.toNat≤57)(hy:48≤y.toNat∧y.toNat≤57)(c:Nat)(hc:c≤1)(add:Bool) :
  ∃(d:UInt8) (c':Nat),(48≤d.toNat∧d.toNat≤57)∧c'≤1∧(q1P [.i x.toNat,.i y.toNat,.i (c:Int),.b add]).run=some (0,[.i d.toNat,.i (c':Int)]) ∧
   (if add then dv x+dv y+c=dv d+10*c' else dv x+10*c'=dv y+c+dv d):=by
 have ex:vY .i64 (qv .u8 (x.toNat:Int) 48)=(dv x:Int):=by rw[qFd (by omega),qt2 (by omega)];unfold dv;omega
 have ey:vY .i64 (qv .u8 (y.toNat:Int) 48)=(dv y:Int):=by rw[qFd (by omega),qt2 (by omega)];unfold dv;omega
 have lx:=qA6 hx
 have ly:=qA6 hy
 have mk:∀v:Nat,v<10→((dch v).toNat:Int)=48+v:=fun v hv=>by rw[q2S hv];omega
 rw[qoW]
 simp only[STD,ex,ey]
 cases add with
 | true=>
  simp only[STD]
  have e1:ql .i64 (ql .i64 (dv x:Int) (dv y:Int)) (c:Int)=((dv x+dv y+c:Nat):Int):=by rw[z7 (x:=(dv x:Int)) (by omega),z7 (by omega)];omega
  rw[e1]
  by_cases h9:9<dv x+dv y+c
  ·have h9':(9:Int)<((dv x+dv y+c:Nat):Int):=by omega
   refine⟨dch (dv x+dv y+c-10),1,by rw[q2S (by omega)];omega,by omega,?_,by rw[qnD (by omega)];omega⟩
   rw[if_pos h9',z7 (by omega),zT (by omega),qs6 (by omega),mk _ (by omega)]
   rw[show (48:Int)+((dv x+dv y+c:Nat):Int)-10=48+((dv x+dv y+c-10:Nat):Int) by omega];rfl
  ·have h9':¬(9:Int)<((dv x+dv y+c:Nat):Int):=by omega
   have h0:¬((dv x+dv y+c:Nat):Int)<0:=by omega
   refine⟨dch (dv x+dv y+c),0,by rw[q2S (by omega)];omega,by omega,?_,by rw[qnD (by omega)];omega⟩
   rw[if_neg h9',if_neg h0,z7 (by omega),qs6 (by omega),mk _ (by omega)];rfl
 | false=>
  simp only[STD]
  have e1:qv .i64 (qv .i64 (dv x:Int) (dv y:Int)) (c:Int)=(dv x:Int)-dv y-c:=by rw[zT (x:=(dv x:Int)) (by omega),zT (by omega)]
  rw[e1]
  have h9':¬(9:Int)<(dv x:Int)-dv y-c:=by omega
  rw[if_neg h9']
  by_cases h0:(dv x:Int)-dv y-c<0
  ·refine⟨dch (dv x+10-dv y-c),1,by rw[q2S (by omega)];omega,by omega,?_,?_⟩
   ·rw[if_pos h0,z7 (x:=48) (by omega),z7 (by omega),qs6 (by omega),mk _ (by omega)]
    rw[show (48:Int)+((dv x:Int)-dv y-c)+10=48+((dv x+10-dv y-c:Nat):Int) by omega];rfl
   ·rw[qnD (by omega)];omega
  ·refine⟨dch (dv x-dv y-c),0,by rw[q2S (by omega)];omega,by omega,?_,?_⟩
   ·rw[if_neg h0,z7 (by omega),qs6 (by omega),mk _ (by omega)]
    rw[show (48:Int)+((dv x:Int)-dv y-c)=48+((dv x-dv y-c:Nat):Int) by omega];rfl
   ·rw[qnD (by omega)];omega
theorem qBG{s:List UInt8}{k:Nat}(h:k<s.length):s.drop k=s[k]::s.drop (k+1):=(List.drop_eq_getElem_cons h)
theorem qzb{s:List UInt8}{k:Nat}(h:k<s.length):val (s.drop k)=dv s[k]*10^(s.length-(k+1))+val (s.drop (k+1)):=by
 rw[qBG h,q6j,List.length_drop]
theorem qv2{a b:List UInt8}{n:Nat}(ha:q6z a)(hb:q6z b)(hla:a.length=n)(hlb:b.length=n)(hn:n≤100000001)(add:Bool) :
  ∃(t:List UInt8) (c:Nat),(qg q0i [.s a,.s b,.b add,.i 0,.i ((n:Int)-1),.r (rI (List.replicate n 0))]).run=some (0,[.r (rI (t.map fun c=>(c.toNat:Int)))])∧q6z t∧t.length=n ∧
   (if add then val a+val b=val t+c*10^n else val a+c*10^n=val b+val t):=by
 obtain⟨j,qs,h1,h2⟩:=yl (S:=q0i) (fun k ps=>∃(t:List UInt8) (c:Nat),ps=[.s a,.s b,.b add,.i (c:Int),.i ((k:Int)-1),.r (rI (List.replicate k 0++t.map fun c=>(c.toNat:Int)))]∧c≤1∧q6z t∧k+t.length=n ∧
   (if add then val (a.drop k)+val (b.drop k)=val t+c*10^(n-k) else val (a.drop k)+c*10^(n-k)=val (b.drop k)+val t))
  (fun j qs=>j=0∧∃(t:List UInt8) (c:Nat),qs=[.r (rI (t.map fun c=>(c.toNat:Int)))]∧q6z t∧t.length=n∧(if add then val a+val b=val t+c*10^n else val a+c*10^n=val b+val t)) (n:=n) (by omega) (fun k ps hk ⟨t,c,hps,hc,hdt,hlt,hrel⟩=>by
  subst hps
  rw[qor]
  cases k with
  | zero=>
   right
   have:¬(0:Int)≤((0:Nat):Int)-1:=by omega
   refine⟨0,[.r (rI (t.map fun c=>(c.toNat:Int)))],?_,rfl,t,c,rfl,hdt,by omega,by simpa using hrel⟩
   simp only[STD,this,List.replicate_zero,List.nil_append]
  | succ k=>
   left
   have e0:((k+1:Nat):Int)-1=(k:Int):=by omega
   rw[e0]
   have hka:k<a.length:=by omega
   have hkb:k<b.length:=by omega
   obtain⟨d,c',hd,hc',hrun,hcol⟩:=qDl (qox ha hka) (qox hb hkb) c hc add
   have h3:(k:Int)<qu a:=by unfold qu;omega
   have h4:(k:Int)<qu b:=by unfold qu;omega
   have h5:(k:Int)<qh (rI (List.replicate (k+1) 0++t.map fun c=>(c.toNat:Int))):=by rw[qkO];simp;omega
   have h6:(List.replicate (k+1) (0:Int)++t.map fun c=>(c.toNat:Int)).set (k:Int).toNat (d.toNat:Int)=List.replicate k 0++(d::t).map fun c=>(c.toNat:Int):=by
    rw[Int.toNat_natCast,List.replicate_succ',List.append_assoc,List.set_append_right _ _ (by simp),List.length_replicate,Nat.sub_self];rfl
   have h7:qv .i64 (k:Int) 1=(k:Int)-1:=zT (by omega)
   refine⟨k,[.s a,.s b,.b add,.i (c':Int),.i ((k:Int)-1),.r (rI (List.replicate k 0++(d::t).map fun c=>(c.toNat:Int)))],by omega,?_,d::t,c',rfl,hc',q0t.2 ⟨hd,hdt⟩,by simp;omega,?_⟩
   ·simp only[STD,jS,h3,h4,h5,and_self,qq3 hka,qq3 hkb,hrun,quU,h6,h7]
   ·rw[qzb hka,qzb hkb,q6j,hla,hlb,show t.length=n-(k+1) by omega,show n-k=(n-(k+1))+1 by omega,Nat.pow_succ]
    generalize 10^(n-(k+1))=p at *
    cases add with
    | true=>
     simp only[↓reduceIte] at hrel hcol ⊢
     have:=congrArg (·*p) hcol
     simp only[Nat.add_mul] at this
     grind
    | false=>
     simp only[Bool.false_eq_true,↓reduceIte] at hrel hcol ⊢
     have:=congrArg (·*p) hcol
     simp only[Nat.add_mul] at this
     grind) (ps:=[.s a,.s b,.b add,.i 0,.i ((n:Int)-1),.r (rI (List.replicate n 0))]) ⟨[],0,by simp,by omega,qoB,by simp,by
    rw[List.drop_eq_nil_of_le (by omega),List.drop_eq_nil_of_le (by omega)];cases add<;>simp[qei]⟩
 obtain⟨rfl,t,c,rfl,h3,h4,h5⟩:=h2
 exact⟨t,c,h1,h3,h4,h5⟩
theorem qCw{m n t c p:Nat}{add:Bool}(hm:m<p)(hn:n<p)(ht:t<p*10)(h4:if add then m+n=t+c*(p*10) else m+c*(p*10)=n+t)(hle:add=false→n≤m):t=if add then m+n else m-n:=by
 have hc0:c=0:=by
  rcases Nat.eq_zero_or_pos c with h|h
  ·exact h
  ·exfalso
   have h5:1*(p*10)≤c*(p*10):=Nat.mul_le_mul_right (p*10) h
   cases add with
   | true=>simp only[↓reduceIte] at h4;omega
   | false=>simp only[Bool.false_eq_true,↓reduceIte] at h4;have:=hle rfl;omega
 subst hc0
 cases add with
 | true=>simp only[↓reduceIte] at h4 ⊢;omega
 | false=>simp only[Bool.false_eq_true,↓reduceIte] at h4 ⊢;omega
theorem qtc(a b:Nat):qgb (a:Int) (b:Int)=((max a b:Nat):Int):=by unfold qgb;split<;>omega
theorem q9v(m n:Nat)(add:Bool)(hm:(tN m).length≤100000000)(hn:(tN n).length≤100000000)(hle:add=false→n≤m) :
  (vF [.s (tN m),.s (tN n),.b add]).run=some (0,[.s (tN (if add then m+n else m-n))]):=by
 rw[qrN]
 obtain⟨N,hN⟩:∃N,N=max (tN m).length (tN n).length+1:=⟨_,rfl⟩
 have l1:(tN m).length≤N-1:=by omega
 have l2:(tN n).length≤N-1:=by omega
 have l3:N=N-1+1:=by omega
 have p1:10^(tN m).length≤10^(N-1):=Nat.pow_le_pow_right (Nat.succ_pos 9) l1
 have p2:10^(tN n).length≤10^(N-1):=Nat.pow_le_pow_right (Nat.succ_pos 9) l2
 have p3:10^N=10^(N-1)*10:=(congrArg (10^·) l3).trans (Nat.pow_succ (n:=10) (m:=N-1))
 have e0:ql .i64 (qgb (qu (tN m)) (qu (tN n))) 1=(N:Int):=by
  unfold qu;rw[qtc,z7 (by omega)];omega
 have e1:qv .i64 (N:Int) 1=(N:Int)-1:=zT (by omega)
 have e2:(0:Int)≤(N:Int)∧(N:Int)≤140737488355328:=by omega
 have wa:=qnl (tN m) N (by omega) (by omega) (by omega)
 have wb:=qnl (tN n) N (by omega) (by omega) (by omega)
 have hda:q6z (List.replicate (N-(tN m).length) 48++tN m):=q9w.2 ⟨qn1 _,w9 _⟩
 have hdb:q6z (List.replicate (N-(tN n).length) 48++tN n):=q9w.2 ⟨qn1 _,w9 _⟩
 obtain⟨t,c,h1,h2,h3,h4⟩:=qv2 (n:=N) hda hdb (by simp;omega) (by simp;omega) (by omega) add
 rw[qqc,qqc,q0H,q0H] at h4
 have ht:t≠[]:=by intro h;subst h;simp at h3;omega
 have hb:=qbV h2 ht (by omega)
 have e3:q3R (N:Int) [.i 0]=rI (List.replicate N 0):=by rw[qjD];rfl
 have hvm:=q6F (w9 m)
 have hvn:=q6F (w9 n)
 have hvt:=q6F h2
 rw[q0H] at hvm hvn
 rw[h3] at hvt
 rw[p3] at h4 hvt
 have q1:=Nat.lt_of_lt_of_le hvm p1
 have q2:=Nat.lt_of_lt_of_le hvn p2
 clear hvm hvn p1 p2 p3
 have hval:val t=if add then m+n else m-n:=qCw q1 q2 hvt h4 hle
 rw[hval] at hb
 simp only[STD,e0,wa,wb,e1,e2,and_self,e3,h1,qmW,hb]
theorem qxr(m n:Nat):(tN (m+n)).length≤max (tN m).length (tN n).length+1:=by
 have h1:=q6F (w9 m)
 have h2:=q6F (w9 n)
 rw[q0H] at h1 h2
 have p1:10^(tN m).length≤10^(max (tN m).length (tN n).length):=Nat.pow_le_pow_right (by omega) (by omega)
 have p2:10^(tN n).length≤10^(max (tN m).length (tN n).length):=Nat.pow_le_pow_right (by omega) (by omega)
 exact q5y _ _ (by rw[Nat.pow_succ];omega)
theorem qqt(m n:Nat):(tN (m*n)).length≤(tN m).length+(tN n).length:=by
 have h1:=q6F (w9 m)
 have h2:=q6F (w9 n)
 rw[q0H] at h1 h2
 have h3:=qiw m
 have h4:=qiw n
 have:m*n<10^((tN m).length+(tN n).length):=by
  rw[Nat.pow_add]
  exact Nat.mul_lt_mul'' h1 h2
 have:=q5y ((tN m).length+(tN n).length-1) (m*n) (by rwa [show (tN m).length+(tN n).length-1+1=(tN m).length+(tN n).length by omega])
 omega
def nl(m:Int):Nat:=(tN m.natAbs).length
theorem qpb(m:Int):0<nl m:=qiw _
theorem qp3(m:Int):nl (-m)=nl m:=by unfold nl;rw[Int.natAbs_neg]
theorem qs8(m n:Int):nl (m+n)≤max (nl m) (nl n)+1:=by
 unfold nl
 exact Nat.le_trans (uX (Int.natAbs_add_le m n)) (qxr _ _)
theorem yJ(m n:Int):nl (m*n)≤nl m+nl n:=by
 unfold nl;rw[Int.natAbs_mul];exact qqt _ _
theorem qGl{m:Int}{k:Nat}(h:nl m≤k):m.natAbs<10^k:=q5G h
theorem qnv(m n:Int)(hm:nl m≤100000000-1)(hn:nl n≤100000000-1):(q2R [.s (tI m),.s (tI n)]).run=some (0,[.s (tI (m+n))]):=by
 rw[qtC]
 have hm':(tN m.natAbs).length≤100000000-1:=hm
 have hn':(tN n.natAbs).length≤100000000-1:=hn
 have lt:=qs8 m n
 by_cases hb:(tN m.natAbs).length≤18∧(tN n.natAbs).length≤18
 ·have b1:m.natAbs<1000000000000000000:=Nat.lt_of_lt_of_le (q5G hb.1) (by decide)
  have b2:n.natAbs<1000000000000000000:=Nat.lt_of_lt_of_le (q5G hb.2) (by decide)
  have e1:ql .i64 m n=m+n:=z7 (by omega)
  have e2:=uR (m+n) (by omega) (by omega)
  clear b1 b2
  have hbr:=q5Z m n
  rw[if_pos hb] at hbr
  simp only[STD,hbr,e1,e2]
 ·have hbr:=q5Z m n
  rw[if_neg hb] at hbr
  have hP:=q9v m.natAbs n.natAbs true (by omega) (by omega) (fun h=>by cases h)
  simp only[↓reduceIte] at hP
  simp only[STD,hbr,wB,vK,qh7,decide_eq_decide,hP]
  have la:=qxr m.natAbs n.natAbs
  by_cases hs:(m<0)=(n<0)
  ·have hs':(m<0↔n<0):=by rw[hs]
   rw[if_pos hs']
   simp only[kJ _ _ (show (tN (m.natAbs+n.natAbs)).length≤100000000 by omega),STD]
   have e:(if m<0 then -((m.natAbs+n.natAbs:Nat):Int) else ((m.natAbs+n.natAbs:Nat):Int))=m+n:=by
    by_cases h:m<0
    ·rw[if_pos h];have:=hs'.1 h;omega
    ·rw[if_neg h];have:¬n<0:=fun q=>h (hs'.2 q);omega
   rw[e]
  ·have hs':¬(m<0↔n<0):=fun h=>hs (propext h)
   rw[if_neg hs']
   by_cases hlt:m.natAbs<n.natAbs
   ·have hP2:=q9v n.natAbs m.natAbs false (by omega) (by omega) (fun _=>by omega)
    simp only[Bool.false_eq_true,↓reduceIte] at hP2
    have ls:(tN (n.natAbs-m.natAbs)).length≤100000000:=Nat.le_trans (uX (Nat.sub_le _ _)) (by omega)
    simp only[STD,hlt,hP2,kJ _ _ ls]
    have e:(if n<0 then -((n.natAbs-m.natAbs:Nat):Int) else ((n.natAbs-m.natAbs:Nat):Int))=m+n:=by
     by_cases h:n<0
     ·rw[if_pos h];have:¬m<0:=fun q=>hs' ⟨fun _=>h,fun _=>q⟩;omega
     ·rw[if_neg h];have:m<0:=by
       rcases Decidable.em (m<0) with q|q
       ·exact q
       ·exact absurd ⟨fun x=>absurd x q,fun x=>absurd x h⟩ hs'
      omega
    rw[e]
   ·have hP2:=q9v m.natAbs n.natAbs false (by omega) (by omega) (fun _=>by omega)
    simp only[Bool.false_eq_true,↓reduceIte] at hP2
    have ls:(tN (m.natAbs-n.natAbs)).length≤100000000:=Nat.le_trans (uX (Nat.sub_le _ _)) (by omega)
    simp only[STD,hlt,hP2,kJ _ _ ls]
    have e:(if m<0 then -((m.natAbs-n.natAbs:Nat):Int) else ((m.natAbs-n.natAbs:Nat):Int))=m+n:=by
     by_cases h:m<0
     ·rw[if_pos h];have:¬n<0:=fun q=>hs' ⟨fun _=>q,fun _=>h⟩;omega
     ·rw[if_neg h];have:n<0:=by
       rcases Decidable.em (n<0) with q|q
       ·exact q
       ·exact absurd ⟨fun x=>absurd x h,fun x=>absurd x q⟩ hs'
      omega
    rw[e]
theorem q9b(m n:Int)(hm:nl m≤100000000-1)(hn:nl n≤100000000-1):(wT [.s (tI m),.s (tI n)]).run=some (0,[.s (tI (m-n))]):=by
 rw[qrR]
 have ht:=qcZ n (by have:(tN n.natAbs).length≤100000000-1:=hn;omega)
 have hp:=qnv m (-n) hm (by rw[qp3];exact hn)
 rw[←Int.sub_eq_add_neg] at hp
 simp only[STD,ht,hp]
def sgn(n:Int):Int:=if n<0 then -1 else if n=0 then 0 else 1
theorem qlN(m n:Int)(hm:nl m≤100000000-1)(hn:nl n≤100000000-1):(q11 [.s (tI m),.s (tI n)]).run=some (0,[.i (sgn (m-n))]):=by
 rw[qr4]
 have h0:(tI (m-n)=[48])=(m-n=0):=by
  have:tI 0=[48]:=rfl
  rw[←this];exact propext ⟨fun h=>qvX h,fun h=>by rw[h]⟩
 simp only[STD,q9b m n hm hn,zW,h0,vK]
 unfold sgn
 by_cases h1:m-n=0
 ·rw[if_pos h1,if_neg (by omega),if_pos h1]
 ·rw[if_neg h1]
  by_cases h2:m-n<0
  ·rw[if_pos h2,if_pos h2]
  ·rw[if_neg h2,if_neg h2,if_neg h1]
end Go.Eng

namespace Go.Eng
def wv(l:List Int):Int:=l.foldl (fun a x=>10*a+x) 0
theorem qsS:∀(t:List Int) (a:Int),t.foldl (fun a x=>10*a+x) a=a*10^t.length+wv t
 | [],a=>by simp[wv]
 | c::t,a=>by
  have h1:=qsS t (10*a+c)
  have h2:=qsS t (10*0+c)
  have h3:wv (c::t)=t.foldl (fun a x=>10*a+x) (10*0+c):=rfl
  rw[h3,h2,List.foldl_cons,h1,List.length_cons,Int.pow_succ]
  grind
theorem qmk(c:Int)(t:List Int):wv (c::t)=c*10^t.length+wv t:=by
 have h3:wv (c::t)=t.foldl (fun a x=>10*a+x) (10*0+c):=rfl
 rw[h3,qsS];grind
theorem qFu:wv []=0:=rfl
theorem qDj(n:Nat):wv (List.replicate n 0)=0:=by
 induction n with
 | zero=>rfl
 | succ n ih=>rw[List.replicate_succ,qmk,ih];simp
theorem qE2:∀(l:List Int) (j:Nat) (hj:j<l.length) (y:Int),wv (l.set j y)=wv l+(y-l[j])*10^(l.length-(j+1))
 | [],j,hj,y=>by simp at hj
 | c::t,0,hj,y=>by
  rw[List.set_cons_zero,qmk,qmk]
  simp only[List.getElem_cons_zero,List.length_cons,Nat.add_sub_cancel,Nat.zero_add]
  grind
 | c::t,j+1,hj,y=>by
  have hj':j<t.length:=by simpa using hj
  rw[List.set_cons_succ,qmk,qmk,qE2 t j hj' y,List.length_set]
  simp only[List.getElem_cons_succ,List.length_cons]
  rw[show t.length+1-(j+1+1)=t.length-(j+1) by omega]
  grind
theorem qEX{l:List Int}{k:Nat}(h:k<l.length):wv (l.drop k)=l[k]*10^(l.length-(k+1))+wv (l.drop (k+1)):=by
 rw[List.drop_eq_getElem_cons h,qmk,List.length_drop]
theorem jx{l:List Int}{j:Nat}(h:j<l.length):l.getD j 0=l[j]:=by simp[List.getD_eq_getElem?_getD,h]
theorem qqN{n i:Nat}(h:i<n):(10:Int)^(n-i)=10^(n-(i+1))*10:=by
 rw[←Int.pow_succ];congr 1;omega
theorem qB3{V A Q B:Int}:V*(Q*10)*B+A*B*Q=(10*V+A)*Q*B:=by grind
theorem qEn{P Q A V y:Int}:A*(10*V+y)*P*Q=A*V*(P*10)*Q+A*y*(P*Q):=by grind
theorem qtV{l:List Int}{j:Nat}{y B:Int}(h:∀x,x∈l→0≤x∧x≤B)(hy:0≤y∧y≤B):∀x,x∈l.set j y→0≤x∧x≤B:=by
 intro x hx
 rcases List.mem_or_eq_of_mem_set hx with h1|h1
 ·exact h x h1
 ·rw[h1];exact hy
theorem qAh{a b:List UInt8}(ha:q6z a)(hb:q6z b){i:Nat}(hi:i<a.length)(hla:a.length≤1000000)(hlb:b.length≤1000000){cols:List Int}(hc:cols.length=a.length+b.length){C:Nat}(hC:C≤1000000000000)
  (hB:∀x,x∈cols→0≤x∧x≤81*(C:Int)) :
  ∃cols':List Int,(qg um [.s a,.s b,.i (i:Int),.i 0,.r (rI cols)]).run=some (0,[.s a,.s b,.i (i:Int),.r (rI cols')])∧cols'.length=a.length+b.length ∧
   (∀x,x∈cols'→0≤x∧x≤81*((C+b.length:Nat):Int))∧wv cols'=wv cols+(dv a[i]:Int)*(val b:Int)*10^(a.length-(i+1)):=by
 obtain⟨j,qs,h1,h2⟩:=yl (S:=um) (fun K ps=>∃(k:Nat) (cs:List Int),K+k=b.length∧ps=[.s a,.s b,.i (i:Int),.i (k:Int),.r (rI cs)]∧cs.length=a.length+b.length ∧
   (∀x,x∈cs→0≤x∧x≤81*((C+k:Nat):Int))∧wv cs=wv cols+(dv a[i]:Int)*(val (b.take k):Int)*10^(b.length-k)*10^(a.length-(i+1)))
  (fun j qs=>j=0∧∃cs:List Int,qs=[.s a,.s b,.i (i:Int),.r (rI cs)]∧cs.length=a.length+b.length ∧
   (∀x,x∈cs→0≤x∧x≤81*((C+b.length:Nat):Int))∧wv cs=wv cols+(dv a[i]:Int)*(val b:Int)*10^(a.length-(i+1))) (n:=b.length) (by omega) (fun K ps hK ⟨k,cs,hkK,hps,hlen,hbd,hw⟩=>by
  subst hps
  rw[qkG]
  cases K with
  | zero=>
   right
   obtain rfl:k=b.length:=by omega
   have:¬(b.length:Int)<qu b:=by unfold qu;omega
   refine⟨0,[.s a,.s b,.i (i:Int),.r (rI cs)],?_,rfl,cs,rfl,hlen,hbd,?_⟩
   ·simp only[STD,this]
   ·rw[hw,List.take_length,Nat.sub_self];grind
  | succ K=>
   left
   have hk:k<b.length:=by omega
   have g1:(k:Int)<qu b:=by unfold qu;omega
   have g2:(i:Int)<qu a:=by unfold qu;omega
   have e1:ql .i64 (ql .i64 (i:Int) (k:Int)) 1=((i+k+1:Nat):Int):=by
    rw[z7 (x:=(i:Int)) (by omega),z7 (by omega)];omega
   have hj:i+k+1<cs.length:=by omega
   have g3:((i+k+1:Nat):Int)<qh (rI cs):=by rw[qkO];omega
   obtain⟨da,la⟩:=qxj ha hi
   obtain⟨db,lb⟩:=qxj hb hk
   have hx:=hbd _ (List.getElem_mem hj)
   have hmul:dv a[i]*dv b[k]≤9*9:=Nat.mul_le_mul (by omega) (by omega)
   have e2:yM .i64 (dv a[i]:Int) (dv b[k]:Int)=((dv a[i]*dv b[k]:Nat):Int):=by
    rw[q17 (by rw[←Int.natCast_mul];omega)];simp
   have e3:ql .i64 cs[i+k+1] ((dv a[i]*dv b[k]:Nat):Int)=cs[i+k+1]+((dv a[i]*dv b[k]:Nat):Int):=z7 (by omega)
   have e4:=kI hk (by omega)
   refine⟨K,[.s a,.s b,.i (i:Int),.i ((k+1:Nat):Int),.r (rI (cs.set (i+k+1) (cs[i+k+1]+((dv a[i]*dv b[k]:Nat):Int))))],by omega,?_,k+1,_,by omega,rfl,by simpa using hlen,?_,?_⟩
   ·simp only[STD,g1,g2,jS,and_self,e1,g3,da,db,e2,qEQ,Int.toNat_natCast,jx hj,e3,e4,quU]
   ·refine qtV (fun x hx=>?_) ?_
    ·have:=hbd x hx;omega
    ·omega
   ·rw[qE2 _ _ hj,hw,qa3 hk,hlen]
    have p1:=qqN hk
    have p2:(10:Int)^(a.length+b.length-(i+k+1+1))=10^(b.length-(k+1))*10^(a.length-(i+1)):=by
     rw[←Int.pow_add];congr 1;omega
    rw[p1,p2]
    generalize (10:Int)^(b.length-(k+1))=P
    generalize (10:Int)^(a.length-(i+1))=Q
    simp only[Int.natCast_add,Int.natCast_mul]
    generalize (dv a[i]:Int)=A
    generalize (dv b[k]:Int)=y
    generalize (val (b.take k):Int)=V
    generalize cs[i+k+1]=c
    have:=qEn (P:=P) (Q:=Q) (A:=A) (V:=V) (y:=y)
    grind) (ps:=[.s a,.s b,.i (i:Int),.i 0,.r (rI cols)]) ⟨0,cols,by omega,rfl,hc,by simpa using hB,by simp[qei]⟩
 obtain⟨rfl,cs,rfl,h3,h4,h5⟩:=h2
 exact⟨cs,h1,h3,h4,h5⟩
theorem qzy{a b:List UInt8}(ha:q6z a)(hb:q6z b)(hla:a.length≤1000000)(hlb:b.length≤1000000) :
  ∃cols:List Int,(qg uk [.s a,.s b,.i 0,.r (rI (List.replicate (a.length+b.length) 0))]).run=some (0,[.r (rI cols)])∧cols.length=a.length+b.length ∧
   (∀x,x∈cols→0≤x∧x≤81000000000000)∧wv cols=(val a:Int)*(val b:Int):=by
 have hsq:∀i,i≤a.length→i*b.length≤1000000000000:=fun i hi=>by
  have:=Nat.mul_le_mul (show i≤1000000 by omega) hlb;omega
 obtain⟨j,qs,h1,h2⟩:=yl (S:=uk) (fun K ps=>∃(i:Nat) (cs:List Int),K+i=a.length∧ps=[.s a,.s b,.i (i:Int),.r (rI cs)]∧cs.length=a.length+b.length ∧
   (∀x,x∈cs→0≤x∧x≤81*((i*b.length:Nat):Int))∧wv cs=(val (a.take i):Int)*10^(a.length-i)*(val b:Int))
  (fun j qs=>j=0∧∃cs:List Int,qs=[.r (rI cs)]∧cs.length=a.length+b.length∧(∀x,x∈cs→0≤x∧x≤81000000000000)∧wv cs=(val a:Int)*(val b:Int)) (n:=a.length) (by omega) (fun K ps hK ⟨i,cs,hiK,hps,hlen,hbd,hw⟩=>by
  subst hps
  rw[qla]
  have hs:=hsq i (by omega)
  cases K with
  | zero=>
   right
   obtain rfl:i=a.length:=by omega
   have:¬(a.length:Int)<qu a:=by unfold qu;omega
   refine⟨0,[.r (rI cs)],?_,rfl,cs,rfl,hlen,fun x hx=>?_,?_⟩
   ·simp only[STD,this]
   ·have:=hbd x hx;omega
   ·rw[hw,List.take_length,Nat.sub_self];grind
  | succ K=>
   left
   have hi:i<a.length:=by omega
   have g1:(i:Int)<qu a:=by unfold qu;omega
   obtain⟨cs',q1,q2,q3,q4⟩:=qAh ha hb hi hla hlb hlen (C:=i*b.length) hs hbd
   have e4:=kI hi (by omega)
   refine⟨K,[.s a,.s b,.i ((i+1:Nat):Int),.r (rI cs')],by omega,?_,i+1,cs',by omega,rfl,q2,?_,?_⟩
   ·simp only[STD,g1,q1,e4]
   ·rw[Nat.add_mul,Nat.one_mul];exact q3
   ·rw[q4,hw,qa3 hi]
    rw[qqN hi,Int.natCast_add,Int.natCast_mul]
    exact qB3) (ps:=[.s a,.s b,.i 0,.r (rI (List.replicate (a.length+b.length) 0))]) ⟨0,List.replicate (a.length+b.length) 0,by omega,rfl,by simp,fun x hx=>by rw[(List.mem_replicate.1 hx).2];omega,by rw[qDj];simp[qei]⟩
 obtain⟨rfl,cs,rfl,h3,h4,h5⟩:=h2
 exact⟨cs,h1,h3,h4,h5⟩
theorem qzU{cols:List Int}{N:Nat}(hl:cols.length=N)(hN:N≤2000000)(hB:∀x,x∈cols→0≤x∧x≤81000000000000) :
  ∃(t:List UInt8) (c:Nat),(qg jV [.i 0,.i ((N:Int)-1),.r (rI cols),.r (rI (List.replicate N 0))]).run=some (0,[.r (rI (t.map fun c=>(c.toNat:Int)))])∧q6z t∧t.length=N∧wv cols=(val t:Int)+(c:Int)*10^N:=by
 obtain⟨j,qs,h1,h2⟩:=yl (S:=jV) (fun K ps=>∃(t:List UInt8) (c:Nat),ps=[.i (c:Int),.i ((K:Int)-1),.r (rI cols),.r (rI (List.replicate K 0++t.map fun c=>(c.toNat:Int)))]∧c≤81000000000000∧q6z t∧K+t.length=N ∧
   wv (cols.drop K)=(val t:Int)+(c:Int)*10^(N-K))
  (fun j qs=>j=0∧∃(t:List UInt8) (c:Nat),qs=[.r (rI (t.map fun c=>(c.toNat:Int)))]∧q6z t∧t.length=N∧wv cols=(val t:Int)+(c:Int)*10^N) (n:=N) (by omega) (fun K ps hK ⟨t,c,hps,hc,hdt,hlt,hrel⟩=>by
  subst hps
  rw[qk1]
  cases K with
  | zero=>
   right
   have:¬(0:Int)≤((0:Nat):Int)-1:=by omega
   refine⟨0,[.r (rI (t.map fun c=>(c.toNat:Int)))],?_,rfl,t,c,rfl,hdt,by omega,by simpa using hrel⟩
   simp only[STD,this,List.replicate_zero,List.nil_append]
  | succ K=>
   left
   have e0:((K+1:Nat):Int)-1=(K:Int):=by omega
   rw[e0]
   have hk:K<cols.length:=by omega
   obtain⟨x,hx⟩:∃x:Nat,cols[K]=(x:Int)∧x≤81000000000000:=by
    have:=hB _ (List.getElem_mem hk)
    exact⟨cols[K].toNat,by omega,by omega⟩
   have e1:ql .i64 (c:Int) (x:Int)=((c+x:Nat):Int):=by rw[z7 (by omega)];omega
   have e2:yY .i64 ((c+x:Nat):Int) 10=(((c+x)/10:Nat):Int):=qyM (b:=10) (by omega)
   have e3:q6E ((c+x:Nat):Int) 10=(((c+x)%10:Nat):Int):=qow _ 10
   have e4:vY .u8 (ql .i64 48 (((c+x)%10:Nat):Int))=((dch ((c+x)%10)).toNat:Int):=by
    rw[z7 (by omega),qs6 (by omega),q2S (by omega)];omega
   have h3:(K:Int)<qh (rI cols):=by rw[qkO];omega
   have h5:(K:Int)<qh (rI (List.replicate (K+1) 0++t.map fun c=>(c.toNat:Int))):=by rw[qkO];simp;omega
   have h6:(List.replicate (K+1) (0:Int)++t.map fun c=>(c.toNat:Int)).set K ((dch ((c+x)%10)).toNat:Int)=List.replicate K 0++(dch ((c+x)%10)::t).map fun c=>(c.toNat:Int):=by
    rw[List.replicate_succ',List.append_assoc,List.set_append_right _ _ (by simp),List.length_replicate,Nat.sub_self];rfl
   have h7:qv .i64 (K:Int) 1=(K:Int)-1:=zT (by omega)
   refine⟨K,[.i (((c+x)/10:Nat):Int),.i ((K:Int)-1),.r (rI cols),.r (rI (List.replicate K 0++(dch ((c+x)%10)::t).map fun c=>(c.toNat:Int)))],by omega,?_,_,_,rfl,by omega,q0t.2 ⟨by rw[q2S (by omega)];omega,hdt⟩,by simp;omega,?_⟩
   ·simp only[STD,jS,h3,h5,and_self,qEQ,Int.toNat_natCast,jx hk,hx.1,e1,e2,e3,e4,quU,h6,h7]
   ·rw[qEX hk,hrel,q6j,hx.1,hl,qnD (by omega),show t.length=N-(K+1) by omega]
    rw[qqN (show K<N by omega)]
    have e:((c+x:Nat):Int)=10*(((c+x)/10:Nat):Int)+(((c+x)%10:Nat):Int):=by omega
    simp only[Int.natCast_add,Int.natCast_mul,Int.natCast_pow] at e ⊢
    generalize hP:(10:Int)^(N-(K+1))=P at *
    generalize (((c+x)/10:Nat):Int)=q at *
    generalize (((c+x)%10:Nat):Int)=r at *
    have:(c:Int)=10*q+r-x:=by omega
    rw[this];grind) (ps:=[.i 0,.i ((N:Int)-1),.r (rI cols),.r (rI (List.replicate N 0))]) ⟨[],0,by simp,by omega,qoB,by simp,by
    rw[List.drop_eq_nil_of_le (by omega)];simp[qei,qFu]⟩
 obtain⟨rfl,t,c,rfl,h3,h4,h5⟩:=h2
 exact⟨t,c,h1,h3,h4,h5⟩
theorem qpk(m n:Nat)(hm:(tN m).length≤1000000)(hn:(tN n).length≤1000000):(q0J [.s (tN m),.s (tN n)]).run=some (0,[.s (tN (m*n))]):=by
 rw[qod]
 obtain⟨cols,c1,c2,c3,c4⟩:=qzy (w9 m) (w9 n) hm hn
 obtain⟨N,hN⟩:∃N,N=(tN m).length+(tN n).length:=⟨_,rfl⟩
 have hp:=qiw m
 rw[←hN] at c1 c2
 obtain⟨t,c,t1,t2,t3,t4⟩:=qzU c2 (by omega) c3
 have ht:t≠[]:=by intro h;subst h;simp at t3;omega
 have hb:=qbV t2 ht (by omega)
 have e0:ql .i64 (qu (tN m)) (qu (tN n))=(N:Int):=by unfold qu;rw[z7 (by omega)];omega
 have e1:(0:Int)≤(N:Int)∧(N:Int)≤17592186044416:=by omega
 have e1':(0:Int)≤(N:Int)∧(N:Int)≤140737488355328:=by omega
 have e2:q3R (N:Int) [.i 0]=rI (List.replicate N 0):=by rw[qjD];rfl
 have e3:qh (rI cols)=(N:Int):=by rw[qkO,c2]
 have e4:qv .i64 (N:Int) 1=(N:Int)-1:=zT (by omega)
 have hval:val t=m*n:=by
  have v1:=q6F (w9 m)
  have v2:=q6F (w9 n)
  have v3:=q6F t2
  rw[t3] at v3
  rw[c4,q0H,q0H] at t4
  rw[q0H] at v1 v2
  have v4:m*n<10^N:=by rw[hN,Nat.pow_add];exact Nat.mul_lt_mul'' v1 v2
  have t5:m*n=val t+c*10^N:=by
   have:((m*n:Nat):Int)=((val t+c*10^N:Nat):Int):=by simpa using t4
   omega
  clear t4 c4 v1 v2
  generalize 10^N=P at *
  rcases Nat.eq_zero_or_pos c with h|h
  ·subst h;omega
  ·have:=Nat.mul_le_mul_right P h;omega
 rw[hval] at hb
 simp only[STD,e0,e1,e1',and_self,e2,c1,e3,e4,t1,qmW,hb]
theorem qkC(m n:Int)(hm:nl m≤1000000)(hn:nl n≤1000000):(wl [.s (tI m),.s (tI n)]).run=some (0,[.s (tI (m*n))]):=by
 rw[qqZ]
 have hm':(tN m.natAbs).length≤1000000:=hm
 have hn':(tN n.natAbs).length≤1000000:=hn
 have hbr:=q5Z m n
 have hP:=qpk m.natAbs n.natAbs hm' hn'
 have lm:=qqt m.natAbs n.natAbs
 have hS:=fun b=>kJ (m.natAbs*n.natAbs) b (by omega)
 have tm:=qw8 m
 have tn:=qw8 n
 have e0:ql .i64 (qu (tI m)) (qu (tI n))=(((tI m).length+(tI n).length:Nat):Int):=by unfold qu;rw[z7 (by omega)];omega
 have sg:(if (¬((m<0)=(n<0))) then -((m.natAbs*n.natAbs:Nat):Int) else ((m.natAbs*n.natAbs:Nat):Int))=m*n:=by
  by_cases h1:m<0<;>by_cases h2:n<0
  ·simp only[h1,h2,not_true_eq_false,if_false]
   rw[Int.natCast_mul,show (m.natAbs:Int)=-m by omega,show (n.natAbs:Int)=-n by omega];grind
  ·simp only[h1,h2]
   rw[if_pos (by simp),Int.natCast_mul,show (m.natAbs:Int)=-m by omega,show (n.natAbs:Int)=n by omega];grind
  ·simp only[h1,h2]
   rw[if_pos (by simp),Int.natCast_mul,show (m.natAbs:Int)=m by omega,show (n.natAbs:Int)=-n by omega];grind
  ·simp only[h1,h2,not_true_eq_false,if_false]
   rw[Int.natCast_mul,show (m.natAbs:Int)=m by omega,show (n.natAbs:Int)=n by omega]
 by_cases hb:(tN m.natAbs).length≤18∧(tN n.natAbs).length≤18
 ·rw[if_pos hb] at hbr
  by_cases h18:(tI m).length+(tI n).length≤18
  ·have h18':(((tI m).length+(tI n).length:Nat):Int)≤18:=by omega
   have lmn:(tN (m*n).natAbs).length≤18:=by
    rw[Int.natAbs_mul]
    have h3:∀q:Int,(tN q.natAbs).length≤(tI q).length:=fun q=>by unfold tI;split<;>simp
    have:=h3 m;have:=h3 n;omega
   have b1:(m*n).natAbs<1000000000000000000:=Nat.lt_of_lt_of_le (q5G lmn) (by decide)
   have e1:yM .i64 m n=m*n:=q17 (by omega)
   have e2:=uR (m*n) (by omega) (by omega)
   clear b1
   simp only[STD,hbr,e0,h18',e1,e2]
  ·have h18':¬(((tI m).length+(tI n).length:Nat):Int)≤18:=by omega
   simp only[STD,hbr,e0,h18',wB,hP,vK,hS,decide_eq_decide]
   rw[←sg];simp only[eq_iff_iff]
 ·rw[if_neg hb] at hbr
  simp only[STD,hbr,wB,hP,vK,hS,decide_eq_decide]
  rw[←sg];simp only[eq_iff_iff]
end Go.Eng

namespace Go.Eng
theorem qFM{x:Int}(h:0≤x∧x≤254):ql .u8 x 1=x+1:=by
 unfold ql IntKind.wrap
 simp[IntKind.signed,IntKind.bits];omega
theorem qxW(a q:List UInt8)(i:Int){b x0:Nat}(hb:0<b)(hx:x0<10*b)(lb:(tN b).length≤1000000)(lx:(tN x0).length≤1000002) :
  (qg yh [.s a,.s (tN b),.s q,.s (tN x0),.i i,.i 48]).run=some (0,[.s a,.s (tN b),.s q,.s (tN (x0%b)),.i i,.i (48+((x0/b:Nat):Int))]):=by
 obtain⟨j,qs,h1,h2⟩:=yl (S:=yh) (fun k ps=>∃x c:Nat,ps=[.s a,.s (tN b),.s q,.s (tN x),.i i,.i (48+(c:Int))]∧x+c*b=x0∧c+k=10∧c≤9)
  (fun j qs=>j=0∧qs=[.s a,.s (tN b),.s q,.s (tN (x0%b)),.i i,.i (48+((x0/b:Nat):Int))]) (n:=10) (by omega) (fun k ps hk ⟨x,c,hps,he,hck,hc⟩=>by
  subst hps
  rw[qjJ]
  have hxl:x≤x0:=by rw[←he];exact Nat.le_add_right _ _
  have hP:=q9v x b false (by have:=uX hxl;omega) (by omega)
  by_cases hlt:x<b
  ·right
   refine⟨0,[.s a,.s (tN b),.s q,.s (tN x),.i i,.i (48+(c:Int))],?_,rfl,?_⟩
   ·simp only[STD,qh7,hlt,decide_true]
   ·have e1:x0/b=c:=by rw[←he,Nat.add_mul_div_right _ _ hb,Nat.div_eq_of_lt hlt,Nat.zero_add]
    have e2:x0%b=x:=by rw[←he,Nat.add_mul_mod_self_right,Nat.mod_eq_of_lt hlt]
    rw[e1,e2]
  ·left
   have hge:b≤x:=by omega
   have hP:=hP (fun _=>hge)
   simp only[Bool.false_eq_true,↓reduceIte] at hP
   have hc9:c+1<10:=by
    apply Nat.lt_of_mul_lt_mul_right (a:=b)
    have:(c+1)*b=c*b+b:=Nat.succ_mul c b
    omega
   refine⟨k-1,[.s a,.s (tN b),.s q,.s (tN (x-b)),.i i,.i (48+((c+1:Nat):Int))],by omega,?_,x-b,c+1,rfl,?_,by omega,by omega⟩
   ·simp only[STD,qh7,hlt,decide_false,hP,qFM (show (0:Int)≤48+(c:Int)∧48+(c:Int)≤254 by omega)]
    rw[show (48+(c:Int)+1)=48+((c+1:Nat):Int) by omega]
   ·have:(c+1)*b=c*b+b:=Nat.succ_mul c b
    omega) (ps:=[.s a,.s (tN b),.s q,.s (tN x0),.i i,.i 48]) ⟨x0,0,by simp,by simp,by omega,by omega⟩
 obtain⟨rfl,rfl⟩:=h2
 exact h1
theorem qDm{s:List UInt8}{i:Nat}(h:i<s.length):qcK s (i:Int) (((i+1:Nat):Int))=[s[i]]:=by
 unfold qcK
 simp only[Int.toNat_natCast]
 rw[List.take_succ_eq_append_getElem h,List.drop_append_of_le_length (by simp;omega)]
 rw[List.drop_of_length_le (by simp;omega)];rfl
theorem qoR{m n:Nat}(hn:0<n)(lm:(tN m).length≤1000000)(ln:(tN n).length≤1000000) :
  (q2K [.s (tN m),.s (tN n)]).run=some (0,[.s (tN (m/n)),.s (tN (m%n))]):=by
 rw[qo7]
 have hdm:=w9 m
 obtain⟨j,qs,h1,rfl,q,h2,h3,h4,h5⟩:=yl (S:=q0q) (fun k ps=>∃(i r:Nat) (q:List UInt8),ps=[.s (tN m),.s (tN n),.s q,.s (tN r),.i (i:Int)]∧i+k=(tN m).length∧q.length=i∧q6z q∧val q*n+r=val ((tN m).take i)∧r<n)
  (fun j qs=>j=0∧∃q:List UInt8,qs=[.s q,.s (tN (m%n))]∧q.length=(tN m).length∧q6z q∧val q=m/n) (n:=(tN m).length) (by omega) (fun k ps hk ⟨i,r,q,hps,hik,hql,hdq,hv,hr⟩=>by
  subst hps
  rw[ql2]
  by_cases hi:i<(tN m).length
  ·left
   have hc:=qox hdm hi
   have hw:ql .i64 (i:Int) 1=((i+1:Nat):Int):=by rw[z7 (by omega)];omega
   have hlr:(tN r).length≤(tN n).length:=uX (by omega)
   have hd10:=qA6 hc
   have hB:=qbV (s:=tN r++[(tN m)[i]]) (q9w.2 ⟨w9 r,fun c hcc=>by simp at hcc;subst hcc;exact hc⟩) (by simp) (by simp;omega)
   rw[qlv,q0H] at hB
   have lx:(tN (10*r+dv (tN m)[i])).length≤1000002:=by
    have h10:10*r+dv (tN m)[i]≤10*n:=by omega
    have e10:(tN (10*n)).length≤(tN 10).length+(tN n).length:=qqt 10 n
    have e11:(tN 10).length=2:=by decide
    have:=uX h10
    omega
   have hI:=qxW (tN m) q (i:Int) hn (x0:=10*r+dv (tN m)[i]) (by omega) ln lx
   have hq10:(10*r+dv (tN m)[i])/n<10:=by
    rw[Nat.div_lt_iff_lt_mul hn];omega
   have hd1:(i:Int)<qu (tN m):=by unfold qu;omega
   have hd2:((i+1:Nat):Int)≤qu (tN m):=by unfold qu;omega
   have hrs:qib [[.i (48+(((10*r+dv (tN m)[i])/n:Nat):Int))]]=[dch ((10*r+dv (tN m)[i])/n)]:=by
    simp only[qib,List.map_cons,List.map_nil,List.getD_cons_zero,U.toI,dch]
    congr 2
   have hl1:qu (tN r)+qu [(tN m)[i]]≤140737488355328:=by unfold qu;simp;omega
   have hl2:qu q+qu [dch ((10*r+dv (tN m)[i])/n)]≤140737488355328:=by unfold qu;simp;omega
   refine⟨k-1,[.s (tN m),.s (tN n),.s (q++[dch ((10*r+dv (tN m)[i])/n)]),.s (tN ((10*r+dv (tN m)[i])%n)),.i ((i+1:Nat):Int)],by omega,?_,i+1,_,_,rfl,by omega,by simp[hql],?_,?_,Nat.mod_lt _ hn⟩
   ·simp only[STD,hw,hd1,hd2,qDm hi,hl1,qdh,hB,hI,hrs,hl2,show (0:Int)≤(i:Int) by omega,show (0:Int)≤((i+1:Nat):Int) by omega,show (i:Int)≤((i+1:Nat):Int) by omega,and_self]
   ·exact q9w.2 ⟨hdq,qtu hq10⟩
   ·rw[qlv,qnD hq10,qa3 hi,←hv]
    have hdm:=Nat.div_add_mod (10*r+dv (tN m)[i]) n
    generalize (10*r+dv (tN m)[i])/n=c at *
    generalize (10*r+dv (tN m)[i])%n=e at *
    have e1:(10*val q+c)*n=10*(val q*n)+n*c:=by rw[Nat.add_mul,Nat.mul_assoc,Nat.mul_comm c n]
    omega
  ·right
   have hie:i=(tN m).length:=by omega
   have hd1:¬((i:Int)<qu (tN m)):=by unfold qu;omega
   rw[hie,List.take_length,q0H] at hv
   have e1:m/n=val q:=by rw[←hv,Nat.add_comm,Nat.add_mul_div_right _ _ hn,Nat.div_eq_of_lt hr,Nat.zero_add]
   have e2:m%n=r:=by rw[←hv,Nat.add_comm,Nat.add_mul_mod_self_right,Nat.mod_eq_of_lt hr]
   refine⟨0,[.s q,.s (tN r)],?_,rfl,q,by rw[e2],by omega,hdq,e1.symm⟩
   simp only[STD,hd1]) (ps:=[.s (tN m),.s (tN n),.s [],.s [48],.i 0]) ⟨0,0,[],rfl,by omega,rfl,qoB,by simp[qei],hn⟩
 subst h2
 have hB:=qbV (s:=q) h4 (by intro h;subst h;have:=qiw m;simp at h3;omega) (by omega)
 rw[h5] at hB
 simp only[STD,h1,hB]
def fq(m n:Int):Int:=if 0<n then m/n else (-m)/(-n)
theorem qmp{m n q:Int}(h:(0<n∧q*n≤m∧m<q*n+n)∨(n<0∧q*n+n<m∧m≤q*n)):fq m n=q:=by
 unfold fq
 rcases h with⟨h0,h1,h2⟩|⟨h0,h1,h2⟩
 ·rw[if_pos h0]
  exact((Int.ediv_emod_unique (r:=m-q*n) h0).2 ⟨by rw[Int.mul_comm];omega,by omega,by omega⟩).1
 ·rw[if_neg (by omega)]
  have e:-n*q=-(q*n):=by rw[Int.neg_mul,Int.mul_comm]
  exact((Int.ediv_emod_unique (r:=q*n-m) (show 0 < -n by omega)).2 ⟨by omega,by omega,by omega⟩).1
theorem qoE{n q:Int}(h:n≠0):fq (q*n) n=q:=by
 apply qmp
 rcases Int.lt_or_lt_of_ne h with h|h
 ·exact .inr ⟨h,by omega,by omega⟩
 ·exact .inl ⟨h,by omega,by omega⟩
theorem qGR(m:Int){n:Int}(_:n≠0):(fq m n).natAbs≤m.natAbs+1:=by
 unfold fq
 split
 ·have:=Int.natAbs_ediv_le_natAbs m n;omega
 ·have:=Int.natAbs_ediv_le_natAbs (-m) (-n);omega
theorem qmU(m:Int){n:Int}(hn:n≠0):n*m.tdiv n+q6E m n=m∧(q6E m n).natAbs<n.natAbs∧(0≤m→0≤q6E m n)∧(m≤0→q6E m n≤0):=by
 unfold q6E
 refine⟨Int.mul_tdiv_add_tmod m n,?_,fun h=>Int.tmod_nonneg n h,fun h=>?_⟩
 ·rw[Int.natAbs_tmod]
  exact Nat.mod_lt _ (by omega)
 ·have:=Int.tmod_nonneg n (show 0≤-m by omega)
  rw[Int.neg_tmod] at this
  omega
end Go.Eng

namespace Go.Eng
theorem qDF{m:Int}(h:(tN m.natAbs).length≤18):m.natAbs<1000000000000000000:=Nat.lt_of_lt_of_le (q5G h) (by decide)
theorem qi5{n t:Int}(hn:n≠0)(h:-9223372036854775808≤t∧t≤9223372036854775807):yY .i64 (n*t) n=t:=by
 unfold yY
 rw[Int.mul_tdiv_cancel_left _ hn]
 unfold IntKind.wrap
 simp[IntKind.signed,IntKind.bits];omega
theorem qFc(m:Int)(n:Int):(m.tdiv n).natAbs≤m.natAbs:=by
 rw[Int.natAbs_tdiv];exact Nat.div_le_self _ _
theorem qDv{m n:Int}(hn:n≠0) :
  (q6E m n≠0∧¬((q6E m n<0)=(n<0))→fq m n=m.tdiv n-1∧m-fq m n*n=q6E m n+n)∧(¬(q6E m n≠0∧¬((q6E m n<0)=(n<0)))→fq m n=m.tdiv n∧m-fq m n*n=q6E m n):=by
 obtain⟨h1,h2,h3,h4⟩:=qmU m hn
 generalize m.tdiv n=t at *
 generalize q6E m n=r at *
 have e:n*t=t*n:=Int.mul_comm _ _
 have e2:(t-1)*n=t*n-n:=by rw[Int.sub_mul,Int.one_mul]
 constructor
 ·intro⟨c1,c2⟩
  have c3:¬(r<0↔n<0):=fun h=>c2 (propext h)
  have:fq m n=t-1:=by
   apply qmp
   rw[e2]
   rcases Int.lt_or_lt_of_ne hn with h|h
   ·have:¬r<0:=fun q=>c3 ⟨fun _=>h,fun _=>q⟩
    exact .inr ⟨h,by omega,by omega⟩
   ·have:r<0:=by
     rcases Decidable.em (r<0) with q|q
     ·exact q
     ·exact absurd ⟨fun x=>by omega,fun x=>by omega⟩ c3
    exact .inl ⟨h,by omega,by omega⟩
  rw[this,e2]
  exact⟨rfl,by omega⟩
 ·intro c
  have c':r=0∨(r<0↔n<0):=by
   rcases Decidable.em (r=0) with q|q
   ·exact .inl q
   ·right
    rcases Decidable.em (r<0↔n<0) with q2|q2
    ·exact q2
    ·exact absurd ⟨q,fun h=>q2 (by rw[h])⟩ c
  have:fq m n=t:=by
   apply qmp
   rcases Int.lt_or_lt_of_ne hn with h|h
   ·rcases c' with q|q
    ·exact .inr ⟨h,by omega,by omega⟩
    ·have:=q.2 h;exact .inr ⟨h,by omega,by omega⟩
   ·rcases c' with q|q
    ·exact .inl ⟨h,by omega,by omega⟩
    ·have:¬r<0:=fun x=>by have:=q.1 x;omega
     exact .inl ⟨h,by omega,by omega⟩
  rw[this]
  exact⟨rfl,by omega⟩
theorem qFB{m n:Int}(hn:n≠0) :
  (m.natAbs%n.natAbs≠0∧¬((m<0)=(n<0))→fq m n=-((m.natAbs/n.natAbs:Nat):Int)-1) ∧
  (¬(m.natAbs%n.natAbs≠0∧¬((m<0)=(n<0)))→fq m n=if ¬((m<0)=(n<0)) then -((m.natAbs/n.natAbs:Nat):Int) else ((m.natAbs/n.natAbs:Nat):Int)):=by
 have hd:=Nat.div_add_mod m.natAbs n.natAbs
 have hl:=Nat.mod_lt m.natAbs (show 0<n.natAbs by omega)
 generalize m.natAbs/n.natAbs=q at *
 generalize m.natAbs%n.natAbs=r at *
 have hq:((n.natAbs*q:Nat):Int)=(n.natAbs:Int)*(q:Int):=by simp
 have e1:n<0→(n.natAbs:Int)*(q:Int)=-((q:Int)*n):=fun h=>by rw[show (n.natAbs:Int)=-n by omega,Int.neg_mul,Int.mul_comm]
 have e2:0<n→(n.natAbs:Int)*(q:Int)=(q:Int)*n:=fun h=>by rw[show (n.natAbs:Int)=n by omega,Int.mul_comm]
 have e3:(-(q:Int)-1)*n=-((q:Int)*n)-n:=by rw[Int.sub_mul,Int.neg_mul,Int.one_mul]
 have e4:(-(q:Int))*n=-((q:Int)*n):=Int.neg_mul _ _
 constructor
 ·intro⟨c1,c2⟩
  have c3:¬(m<0↔n<0):=fun h=>c2 (propext h)
  apply qmp
  rw[e3]
  rcases Int.lt_or_lt_of_ne hn with h|h
  ·have:=e1 h
   have:¬m<0:=fun q=>c3 ⟨fun _=>h,fun _=>q⟩
   exact .inr ⟨h,by omega,by omega⟩
  ·have:=e2 h
   have:m<0:=by
    rcases Decidable.em (m<0) with q|q
    ·exact q
    ·exact absurd ⟨fun x=>by omega,fun x=>by omega⟩ c3
   exact .inl ⟨h,by omega,by omega⟩
 ·intro c
  by_cases c2:(m<0)=(n<0)
  ·rw[if_neg (by simpa using c2)]
   have c3:m<0↔n<0:=by rw[c2]
   apply qmp
   rcases Int.lt_or_lt_of_ne hn with h|h
   ·have:=e1 h
    have:=c3.2 h
    exact .inr ⟨h,by omega,by omega⟩
   ·have:=e2 h
    have:¬m<0:=fun x=>by have:=c3.1 x;omega
    exact .inl ⟨h,by omega,by omega⟩
  ·rw[if_pos c2]
   have hr:r=0:=by
    rcases Nat.eq_zero_or_pos r with h|h
    ·exact h
    ·exact absurd ⟨by omega,c2⟩ c
   have c3:¬(m<0↔n<0):=fun h=>c2 (propext h)
   apply qmp
   rw[e4]
   rcases Int.lt_or_lt_of_ne hn with h|h
   ·have:=e1 h
    have:¬m<0:=fun q=>c3 ⟨fun _=>h,fun _=>q⟩
    exact .inr ⟨h,by omega,by omega⟩
   ·have:=e2 h
    have:m≤0:=by
     rcases Decidable.em (m<0) with q|q
     ·omega
     ·exact absurd ⟨fun x=>by omega,fun x=>by omega⟩ c3
    exact .inl ⟨h,by omega,by omega⟩
theorem qEg:tI 1=[49]:=rfl
theorem q4Z(n:Nat):(tN n=[48])=(n=0):=by
 rw[←qxP];exact propext ⟨fun h=>qsw h,fun h=>by rw[h]⟩
theorem qDo(m:Int){n:Int}(hn:n≠0):nl (fq m n)≤nl m+2:=by
 have h:=qGR m hn
 have h2:=uX h
 have h3:=qxr m.natAbs 1
 have h4:(tN 1).length=1:=rfl
 have:=qiw m.natAbs
 unfold nl
 omega
theorem q4b(m n:Int)(hn0:n≠0)(hm:nl m≤400000)(hn:nl n≤400000):(wg [.s (tI m),.s (tI n)]).run=some (0,[.s (tI (fq m n)),.s (tI (m-fq m n*n))]):=by
 rw[qqQ]
 have hbr:=q5Z m n
 by_cases hb:(tN m.natAbs).length≤18∧(tN n.natAbs).length≤18
 ·rw[if_pos hb] at hbr
  have b1:=qDF hb.1
  have b2:=qDF hb.2
  obtain⟨h1,h2,h3,h4⟩:=qmU m hn0
  obtain⟨g1,g2⟩:=qDv (m:=m) hn0
  have ht:=qFc m n
  by_cases c0:q6E m n=0
  ·obtain⟨e1,e2⟩:=g2 (fun h=>h.1 c0)
   rw[e2,e1]
   have w1:qv .i64 m (q6E m n)=n*m.tdiv n:=by rw[zT (by omega)];omega
   have w2:=qi5 (t:=m.tdiv n) hn0 (by omega)
   have o1:=uR (m.tdiv n) (by omega) (by omega)
   have o2:=uR (q6E m n) (by omega) (by omega)
   simp only[STD,hbr,hn0,c0] at w1 o2 ⊢
   simp only[STD,w1,w2,o1,o2]
  ·by_cases c1:(q6E m n<0)=(n<0)
   ·obtain⟨e1,e2⟩:=g2 (fun h=>h.2 c1)
    rw[e2,e1]
    have w1:qv .i64 m (q6E m n)=n*m.tdiv n:=by rw[zT (by omega)];omega
    have w2:=qi5 (t:=m.tdiv n) hn0 (by omega)
    have o1:=uR (m.tdiv n) (by omega) (by omega)
    have o2:=uR (q6E m n) (by omega) (by omega)
    have hbq:(ilt (q6E m n) 0=ilt n 0)=True:=by
     simp only[ilt,decide_eq_decide,eq_iff_iff,iff_true]
     rw[c1]
    simp only[STD,hbr,hn0,c0,hbq,w1,w2,o1,o2]
   ·obtain⟨e1,e2⟩:=g1 ⟨c0,c1⟩
    rw[e2,e1]
    have w0:ql .i64 (q6E m n) n=q6E m n+n:=z7 (by omega)
    have e3:n*(m.tdiv n-1)=n*m.tdiv n-n:=by rw[Int.mul_sub,Int.mul_one]
    have w1:qv .i64 m (q6E m n+n)=n*(m.tdiv n-1):=by rw[zT (by omega)];omega
    have w2:=qi5 (t:=m.tdiv n-1) hn0 (by omega)
    have o1:=uR (m.tdiv n-1) (by omega) (by omega)
    have o2:=uR (q6E m n+n) (by omega) (by omega)
    have hbq:(ilt (q6E m n) 0=ilt n 0)=False:=by
     simp only[ilt,decide_eq_decide,eq_iff_iff,iff_false]
     exact fun h=>c1 (propext h)
    simp only[STD,hbr,hn0,c0,hbq,w0,w1,w2,o1,o2]
 ·rw[if_neg hb] at hbr
  have hm':(tN m.natAbs).length≤400000:=hm
  have hn':(tN n.natAbs).length≤400000:=hn
  have hD:=qoR (m:=m.natAbs) (n:=n.natAbs) (by omega) (by omega) (by omega)
  have lq:(tN (m.natAbs/n.natAbs)).length≤(tN m.natAbs).length:=uX (Nat.div_le_self _ _)
  have hS:=fun b=>kJ (m.natAbs/n.natAbs) b (by omega)
  have hbq:(decide (m<0)=decide (n<0))=((m<0)=(n<0)):=by
   simp only[decide_eq_decide,eq_iff_iff]
  have lf:=qDo m hn0
  have hT:=qkC (fq m n) n (by omega) (by omega)
  have lt:=yJ (fq m n) n
  have hM:=q9b m (fq m n*n) (by omega) (by omega)
  obtain⟨g1,g2⟩:=qFB (m:=m) hn0
  by_cases c1:(m<0)=(n<0)
  ·have e1:=g2 (fun h=>h.2 c1)
   rw[if_neg (by simpa using c1)] at e1
   have hS':=hS false
   simp only[Bool.false_eq_true,if_false] at hS'
   rw[←e1] at hS'
   have hnb:(!Go.Eng.beq (decide (m<0)) (decide (n<0)))=false:=by
    simp only[Go.Eng.beq,Bool.not_eq_false',beq_iff_eq];rw[hbq];exact c1
   by_cases c0:m.natAbs%n.natAbs=0
   ·simp only[STD,hbr,wB,hD,vK,hnb,hS',zW,q4Z,c0,hT,hM]
   ·simp only[STD,hbr,wB,hD,vK,hnb,hS',zW,q4Z,c0,hT,hM]
  ·have hnb:(!Go.Eng.beq (decide (m<0)) (decide (n<0)))=true:=by
    have:¬(decide (m<0)=decide (n<0)):=by rw[hbq];exact c1
    simp only[Go.Eng.beq,Bool.not_eq_true',beq_eq_false_iff_ne];exact this
   have hS':=hS true
   simp only[if_true] at hS'
   by_cases c0:m.natAbs%n.natAbs=0
   ·have e1:=g2 (fun h=>h.1 c0)
    rw[if_pos c1] at e1
    rw[←e1] at hS'
    simp only[STD,hbr,wB,hD,vK,hnb,hS',zW,q4Z,c0,hT,hM]
   ·have e1:=g1 ⟨c0,c1⟩
    have hMi:=q9b (-((m.natAbs/n.natAbs:Nat):Int)) 1 (by rw[qp3];show (tN (m.natAbs/n.natAbs)).length≤_;omega) (by decide)
    rw[qEg,←e1] at hMi
    simp only[STD,hbr,wB,hD,vK,hnb,hS',zW,q4Z,c0,hMi,hT,hM]
end Go.Eng

namespace Go.Eng
theorem qGd(x:Nat){y:Nat}(h:0<y):fq (x:Int) (y:Int)=((x/y:Nat):Int)∧(x:Int)-fq (x:Int) (y:Int)*(y:Int)=((x%y:Nat):Int):=by
 have e:fq (x:Int) (y:Int)=((x/y:Nat):Int):=by unfold fq;rw[if_pos (by omega)];rfl
 refine⟨e,?_⟩
 rw[e]
 have:=Nat.div_add_mod x y
 have h2:((y*(x/y):Nat):Int)=((x/y:Nat):Int)*(y:Int):=by rw[Nat.mul_comm];simp
 omega
theorem qDB(a b:Nat)(hb:b<9223372036854775808):(qg ul [.i (a:Int),.i (b:Int)]).run=some (0,[.i ((Nat.gcd a b:Nat):Int)]):=by
 obtain⟨j,qs,h1,rfl,rfl⟩:=yl (S:=ul) (fun k ps=>∃x y:Nat,ps=[.i (x:Int),.i (y:Int)]∧y=k∧Nat.gcd x y=Nat.gcd a b)
  (fun j qs=>j=0∧qs=[.i ((Nat.gcd a b:Nat):Int)]) (n:=b) hb (fun k ps hk ⟨x,y,hps,hy,hg⟩=>by
  subst hps
  rw[qkh]
  by_cases h0:y=0
  ·right
   refine⟨0,[.i (x:Int)],?_,rfl,?_⟩
   ·simp only[STD,h0];simp[]
   ·rw[←hg,h0,Nat.gcd_zero_right]
  ·left
   refine⟨x%y,[.i (y:Int),.i ((x%y:Nat):Int)],by rw[←hy];exact Nat.mod_lt _ (by omega),?_,y,x%y,rfl,rfl,?_⟩
   ·simp only[STD,show (0:Int)<(y:Int) by omega,show ¬((y:Int)=0) by omega,qow]
   ·rw[←hg,Nat.gcd_comm y,←Nat.gcd_rec,Nat.gcd_comm]) (ps:=[.i (a:Int),.i (b:Int)]) ⟨a,b,rfl,rfl,rfl⟩
 exact h1
def eM(a b:Nat):Nat:=if b=0 then 0 else Nat.log2 (a*b)+1+if a<b then 1 else 0
theorem qAL{m n:Nat}(h:m≤n):Nat.log2 m≤Nat.log2 n:=by
 by_cases hm:m=0
 ·subst hm;simp
 ·rcases Nat.lt_or_ge (Nat.log2 n) (Nat.log2 m) with h1|h1
  ·have:=(Nat.log2_lt (show n≠0 by omega)).1 h1
   have h2:=Nat.log2_self_le hm
   omega
  ·exact h1
theorem qCK{a b:Nat}(hb:b≠0):eM b (a%b)<eM a b:=by
 have hlt:=Nat.mod_lt a (show 0<b by omega)
 unfold eM
 rw[if_neg hb]
 by_cases hr:a%b=0
 ·rw[if_pos hr];omega
 ·rw[if_neg hr,if_neg (show ¬b<a%b by omega)]
  by_cases hab:a<b
  ·rw[if_pos hab,Nat.mod_eq_of_lt hab,Nat.mul_comm b a];omega
  ·rw[if_neg hab]
   have hd:=Nat.div_add_mod a b
   have hq:1≤a/b:=(Nat.le_div_iff_mul_le (by omega)).2 (by omega)
   have h1:b*1≤b*(a/b):=Nat.mul_le_mul_left _ hq
   have h2:2*(b*(a%b))≤a*b:=by
    have:2*(a%b)≤a:=by omega
    have:=Nat.mul_le_mul_right b this
    rw[Nat.mul_assoc,Nat.mul_comm (a%b) b] at this
    exact this
   have h3:=qAL h2
   have h4:Nat.log2 (2*(b*(a%b)))=Nat.log2 (b*(a%b))+1:=by
    apply Nat.log2_two_mul
    exact Nat.mul_ne_zero hb hr
   omega
theorem qCa{x k j:Nat}(h:(tN x).length≤k)(hj:4*k=j):x<2^j:=by
 have h3:x<10^k:=q5G h
 have h4:(10:Nat)^k≤16^k:=Nat.pow_le_pow_left (by omega) _
 have h5:(16:Nat)^k=2^j:=by rw[show (16:Nat)=2^4 from rfl,←Nat.pow_mul,hj]
 rw[h5] at h4
 exact Nat.lt_of_lt_of_le h3 h4
theorem qyz{a b:Nat}(ha:(tN a).length≤400000)(hb:(tN b).length≤400000):eM a b<9223372036854775808:=by
 unfold eM
 have h1:=qqt a b
 by_cases h0:a*b=0
 ·rw[h0];simp;split<;>(try split)<;>omega
 ·obtain⟨j,hj⟩:∃j,j=3200000:=⟨_,rfl⟩
  have h2:a*b<2^j:=qCa (k:=800000) (by omega) (by omega)
  have:=(Nat.log2_lt h0).2 h2
  split<;>(try split)<;>omega
theorem qrc(m n:Int)(hm:nl m≤400000)(hn:nl n≤400000):(q4q [.s (tI m),.s (tI n)]).run=some (0,[.s (tN (Nat.gcd m.natAbs n.natAbs))]):=by
 rw[qpS]
 have hm':(tN m.natAbs).length≤400000:=hm
 have hn':(tN n.natAbs).length≤400000:=hn
 have hS:=fun x (h:(tN x).length≤400000)=>kJ x false (by omega)
 simp only[Bool.false_eq_true,if_false,q0K] at hS
 obtain⟨j,qs,h1,h2,rfl⟩:=yl (S:=q1C) (fun k ps=>∃x y:Nat,ps=[.s (tN x),.s (tN y)]∧eM x y=k∧Nat.gcd x y=Nat.gcd m.natAbs n.natAbs∧(tN x).length≤400000∧(tN y).length≤400000)
  (fun j qs=>(j=0∨j=1)∧qs=[.s (tN (Nat.gcd m.natAbs n.natAbs))]) (n:=eM m.natAbs n.natAbs) (qyz hm' hn') (fun k ps hk ⟨x,y,hps,hy,hg,lx,ly⟩=>by
  subst hps
  rw[qmY]
  by_cases h0:y=0
  ·right
   refine⟨0,[.s (tN x)],?_,.inl rfl,?_⟩
   ·simp only[STD,zW,q4Z,h0]
   ·rw[←hg,h0,Nat.gcd_zero_right]
  ·have hbr:=q5Z (x:Int) (y:Int)
   rw[q0K,q0K] at hbr
   simp only[Int.natAbs_natCast] at hbr
   by_cases hb:(tN x).length≤18∧(tN y).length≤18
   ·right
    rw[if_pos hb] at hbr
    have b1:=qDF (m:=(x:Int)) hb.1
    have b2:=qDF (m:=(y:Int)) hb.2
    simp only[Int.natAbs_natCast] at b1 b2
    have hE:=qDB x y (by omega)
    have hgl:Nat.gcd x y≤y:=Nat.gcd_le_right _ (by omega)
    have hO:=uR ((Nat.gcd x y:Nat):Int) (by omega) (by omega)
    rw[q0K] at hO
    refine⟨1,[.s (tN (Nat.gcd x y))],?_,.inr rfl,by rw[hg]⟩
    simp only[STD,zW,q4Z,h0,hbr,hE,hO]
   ·left
    rw[if_neg hb] at hbr
    have hP:=q4b (x:Int) (y:Int) (by omega) (by exact lx) (by exact ly)
    rw[q0K,q0K,(qGd x (show 0<y by omega)).2,q0K] at hP
    refine⟨eM y (x%y),[.s (tN y),.s (tN (x%y))],by rw[←hy];exact qCK h0,?_,y,x%y,rfl,rfl,?_,ly,Nat.le_trans (uX (Nat.le_of_lt (Nat.mod_lt _ (by omega)))) ly⟩
    ·simp only[STD,zW,q4Z,h0,hbr,hP]
    ·rw[←hg,Nat.gcd_comm y,←Nat.gcd_rec,Nat.gcd_comm]) (ps:=[.s (tN m.natAbs),.s (tN n.natAbs)]) ⟨_,_,rfl,rfl,rfl,hm',hn'⟩
 rcases h2 with rfl|rfl
 ·simp only[STD,wB,hS _ hm',hS _ hn',h1,qD h1,ite_self]
 ·simp only[STD,wB,hS _ hm',hS _ hn',h1,qD h1,ite_self]
def mag(s:List UInt8):List UInt8:=if s.getD 0 0=45 then s.drop 1 else s
theorem qv8(m:Int):mag (tI m)=tN m.natAbs:=by
 unfold mag
 by_cases h:m<0
 ·rw[qc1 h];simp
 ·rw[qjN h]
  obtain⟨c,t,e,h1,h2⟩:=qhZ (w9 m.natAbs) (qp0 _)
  rw[e]
  simp only[List.getD_cons_zero]
  rw[if_neg]
  intro hc;subst hc;revert h1;decide
theorem qBQ(s:List UInt8):(∃m:Int,s=tI m)↔mag s≠[]∧q6z (mag s)∧((mag s).getD 0 0=48→s.length=1):=by
 constructor
 ·rintro ⟨m,rfl⟩
  rw[qv8]
  refine⟨qp0 _,w9 _,fun h=>?_⟩
  rcases qB5 m.natAbs with h1|h1
  ·have h2:=qsR m.natAbs
   have hv:m.natAbs=0:=by
    obtain⟨c,e⟩:∃c,tN m.natAbs=[c]:=List.length_eq_one_iff.1 h1
    rw[e] at h
    simp at h
    have:=q0H m.natAbs
    rw[e,h] at this
    simpa[val,dv] using this.symm
   have hm0:m=0:=by omega
   rw[hm0];rfl
  ·exact absurd h h1
 ·rintro ⟨h1,h2,h3⟩
  by_cases h45:s.getD 0 0=45
  ·have hm:mag s=s.drop 1:=by unfold mag;rw[if_pos h45]
   obtain⟨c,t,rfl⟩:∃c t,s=c::t:=by
    cases s with
    | nil=>simp at h45
    | cons c t=>exact⟨c,t,rfl⟩
   simp at h45
   subst h45
   rw[hm] at h1 h2 h3
   simp only[List.drop_succ_cons,List.drop_zero] at h1 h2 h3
   have h4:t.getD 0 0≠48:=fun h=>by
    have:=h3 h
    simp at this
    exact h1 this
   have hv:=qyP h2 h1 h4
   have hp:0<10^(t.length-1):=Nat.pow_pos (by omega)
   refine⟨-((val t:Nat):Int),?_⟩
   rw[qc1 (by omega)]
   simp only[Int.natAbs_neg,Int.natAbs_natCast]
   rw[←qoS h2 h1 (.inr h4)]
  ·have hm:mag s=s:=by unfold mag;rw[if_neg h45]
   rw[hm] at h1 h2 h3
   refine⟨((val s:Nat):Int),?_⟩
   rw[q0K]
   refine qoS h2 h1 ?_
   by_cases h4:s.getD 0 0=48
   ·exact .inl (h3 h4)
   ·exact .inr h4
open Classical in
noncomputable def qyI(s:List UInt8):Int:=if ∃m:Int,s=tI m then (if (mag s).length≤1024 then 0 else 11) else 3
end Go.Eng

namespace Go.Eng
def tQ(q:Rat):List UInt8:=if q.den=1 then tI q.num else tI q.num++47::tN q.den
def dl(n:Nat):Nat:=(tN n).length
def qn(q:Rat):Nat:=nl q.num
def qd(q:Rat):Nat:=dl q.den
theorem qBT{s:List UInt8}(h:q6z s):∀c,c∈s→c≠47:=fun c hc e=>by
 have:=h c hc
 rw[e] at this
 revert this;decide
theorem qrF(m:Int):∀c,c∈tI m→c≠47:=by
 intro c hc
 unfold tI at hc
 split at hc
 ·rcases List.mem_cons.1 hc with rfl|hc
  ·decide
  ·exact qBT (w9 _) c hc
 ·exact qBT (w9 _) c hc
theorem qyY:∀{s s' t t':List UInt8},(∀c,c∈s→c≠47)→(∀c,c∈s'→c≠47)→s++47::t=s'++47::t'→s=s'∧t=t'
 | [],[],t,t',_,_,h=>⟨rfl,by simpa using h⟩
 | [],c::s',t,t',_,h2,h=>by
  simp only[List.nil_append,List.cons_append,List.cons.injEq] at h
  exact absurd h.1.symm (h2 c List.mem_cons_self)
 | c::s,[],t,t',h1,_,h=>by
  simp only[List.nil_append,List.cons_append,List.cons.injEq] at h
  exact absurd h.1 (h1 c List.mem_cons_self)
 | c::s,c'::s',t,t',h1,h2,h=>by
  simp only[List.cons_append,List.cons.injEq] at h
  obtain⟨e1,e2⟩:=qyY (fun c hc=>h1 c (List.mem_cons_of_mem _ hc)) (fun c hc=>h2 c (List.mem_cons_of_mem _ hc)) h.2
  exact⟨by rw[h.1,e1],e2⟩
theorem qb7{q:Rat}(h:q.den=1):tQ q=tI q.num:=by unfold tQ;rw[if_pos h]
theorem q5R{q:Rat}(h:q.den≠1):tQ q=tI q.num++47::tN q.den:=by unfold tQ;rw[if_neg h]
theorem qGh{a b:Rat}(h:tQ a=tQ b):a=b:=by
 by_cases ha:a.den=1<;>by_cases hb:b.den=1
 ·rw[qb7 ha,qb7 hb] at h
  exact Rat.ext (qvX h) (ha.trans hb.symm)
 ·rw[qb7 ha,q5R hb] at h
  exact absurd rfl (qrF a.num 47 (by rw[h];simp))
 ·rw[q5R ha,qb7 hb] at h
  exact absurd rfl (qrF b.num 47 (by rw[←h];simp))
 ·rw[q5R ha,q5R hb] at h
  obtain⟨e1,e2⟩:=qyY (qrF _) (qrF _) h
  exact Rat.ext (qvX e1) (qsw e2)
theorem qzH(a b:Rat):(tQ a=tQ b)=(a=b):=propext ⟨qGh,fun h=>by rw[h]⟩
theorem qwM(m:Int):tQ (m:Rat)=tI m:=qb7 (by simp)
theorem qDu(n:Nat):tQ (OfNat.ofNat n:Rat)=tN n:=by
 rw[qb7 (by simp)]
 simp only[Rat.num_ofNat]
 exact q0K n
theorem qcv{m n:Int}(h:m.natAbs≤n.natAbs):nl m≤nl n:=uX h
theorem qBM{m n:Nat}(h:m≤n):dl m≤dl n:=uX h
theorem qgr(n:Nat):nl (n:Int)=dl n:=rfl
theorem qCh(m n:Nat):dl (m*n)≤dl m+dl n:=qqt m n
theorem qyG(m n:Int):nl (m-n)≤max (nl m) (nl n)+1:=by
 rw[Int.sub_eq_add_neg]
 have:=qs8 m (-n)
 rwa [qp3] at this
theorem qc6(N:Int)(D:Nat):nl (mkRat N D).num≤nl N∧dl (mkRat N D).den≤dl D:=by
 rw[Rat.num_mkRat,Rat.den_mkRat]
 by_cases h:D=0
 ·rw[if_pos h,if_pos h,h]
  exact⟨qcv (by simp),by decide⟩
 ·rw[if_neg h,if_neg h]
  exact⟨qcv (Int.natAbs_ediv_le_natAbs _ _),qBM (Nat.div_le_self _ _)⟩
theorem qAU(a b:Rat):qn (a*b)≤qn a+qn b:=by
 unfold qn
 rw[Rat.mul_def']
 exact Nat.le_trans (qc6 _ _).1 (yJ _ _)
theorem qBr(a b:Rat):qd (a*b)≤qd a+qd b:=by
 unfold qd
 rw[Rat.mul_def']
 exact Nat.le_trans (qc6 _ _).2 (qCh _ _)
theorem qG0(a b:Rat):qn (a+b)≤max (qn a+qd b) (qn b+qd a)+1:=by
 unfold qn qd
 rw[Rat.add_def']
 have h1:=(qc6 (a.num*b.den+b.num*a.den) (a.den*b.den)).1
 have h2:=qs8 (a.num*b.den) (b.num*a.den)
 have h3:=yJ a.num b.den
 have h4:=yJ b.num a.den
 rw[qgr] at h3 h4
 omega
theorem qFy(a b:Rat):qd (a+b)≤qd a+qd b:=by
 unfold qd
 rw[Rat.add_def']
 exact Nat.le_trans (qc6 _ _).2 (qCh _ _)
theorem qG6(a b:Rat):qn (a-b)≤max (qn a+qd b) (qn b+qd a)+1:=by
 unfold qn qd
 rw[Rat.sub_def']
 have h1:=(qc6 (a.num*b.den-b.num*a.den) (a.den*b.den)).1
 have h2:=qyG (a.num*b.den) (b.num*a.den)
 have h3:=yJ a.num b.den
 have h4:=yJ b.num a.den
 rw[qgr] at h3 h4
 omega
theorem qFU(a b:Rat):qd (a-b)≤qd a+qd b:=by
 unfold qd
 rw[Rat.sub_def']
 exact Nat.le_trans (qc6 _ _).2 (qCh _ _)
theorem qFW(a:Rat):qn (-a)=qn a:=by unfold qn;rw[Rat.neg_num,qp3]
theorem qqq(a:Rat):0<qn a:=qpb _
theorem qzd(a:Rat):0<qd a:=qiw _
theorem qG9{a:Rat}(h:a≠0):qn a⁻¹≤qd a:=by
 unfold qn qd
 rw[Rat.num_inv,←qgr]
 apply qcv
 rw[Int.natAbs_mul,Int.natAbs_sign_of_ne_zero (by rwa [Ne,Rat.num_eq_zero])]
 simp
theorem qG2{a:Rat}(h:a≠0):qd a⁻¹≤qn a:=by
 unfold qn qd
 rw[Rat.den_inv,if_neg (by rwa [Rat.num_eq_zero])]
 exact Nat.le_refl _
theorem qGe(a:Rat){b:Rat}(h:b≠0):qn (a/b)≤qn a+qd b:=by
 rw[Rat.div_def]
 exact Nat.le_trans (qAU _ _) (Nat.add_le_add_left (qG9 h) _)
theorem qFF(a:Rat){b:Rat}(h:b≠0):qd (a/b)≤qd a+qn b:=by
 rw[Rat.div_def]
 exact Nat.le_trans (qBr _ _) (Nat.add_le_add_left (qG2 h) _)
def sgq(q:Rat):Int:=sgn q.num
theorem qeU{m k:Int}(hk:0<k):sgn (m*k)=sgn m:=by
 unfold sgn
 rcases Int.lt_trichotomy m 0 with h|h|h
 ·have:=Int.mul_neg_of_neg_of_pos h hk
  rw[if_pos h,if_pos this]
 ·subst h;simp
 ·have:=Int.mul_pos h hk
  rw[if_neg (by omega),if_neg (by omega),if_neg (by omega),if_neg (by omega)]
theorem qEk(m:Int):sgn (-m)=-sgn m:=by
 unfold sgn
 rcases Int.lt_trichotomy m 0 with h|h|h
 ·rw[if_pos h,if_neg (by omega),if_neg (by omega)];rfl
 ·subst h;rfl
 ·rw[if_pos (by omega),if_neg (by omega),if_neg (by omega)]
theorem qt6{q:Rat}(h:0<q):sgq q=1:=by
 unfold sgq sgn
 have h1:0≤q.num:=Rat.num_nonneg.2 (Rat.le_of_lt h)
 have h2:q.num≠0:=fun e=>by rw[Rat.num_eq_zero] at e;rw[e] at h;exact Rat.lt_irrefl h
 rw[if_neg (by omega),if_neg h2]
theorem qBP(q:Rat):sgq (-q)=-sgq q:=by unfold sgq;rw[Rat.neg_num,qEk]
theorem qAS{q:Rat}(h:q<0):sgq q=-1:=by
 have h1:0 < -q:=by grind
 have:=qt6 h1
 rw[qBP] at this
 omega
theorem q8e(q:Rat):(q<0∧sgq q=-1)∨(q=0∧sgq q=0)∨(0<q∧sgq q=1):=by
 by_cases h1:q<0
 ·exact .inl ⟨h1,qAS h1⟩
 ·by_cases h2:q=0
  ·exact .inr (.inl ⟨h2,by rw[h2];rfl⟩)
  ·exact .inr (.inr ⟨by grind,qt6 (by grind)⟩)
theorem qmb(q:Rat):(sgq q≤0)=(q≤0):=by
 rcases q8e q with⟨h,e⟩|⟨h,e⟩|⟨h,e⟩<;>rw[e]<;>simp<;>grind
theorem qCM(N:Int){D:Nat}(h:D≠0):sgq (mkRat N D)=sgn N:=by
 have hp:(0:Rat)<(D:Rat):=by
  have:0<D:=by omega
  exact Rat.natCast_pos.2 this
 have e:(mkRat N D)*(D:Rat)=(N:Rat):=by
  rw[Rat.mkRat_eq_div]
  exact Rat.div_mul_cancel (by grind)
 have h2:sgn N=sgq (N:Rat):=by unfold sgq;simp
 rw[h2,←e]
 rcases q8e (mkRat N D) with⟨h,e⟩|⟨h,e⟩|⟨h,e⟩
 ·rw[e,qAS]
  exact(Rat.mul_neg_iff_of_pos_right hp).2 h
 ·rw[e,h,Rat.zero_mul];rfl
 ·rw[e,qt6]
  exact Rat.mul_pos h hp
theorem qER(a b:Rat):sgq (a-b)=sgn (a.num*b.den-b.num*a.den):=by
 rw[Rat.sub_def',qCM]
 exact Nat.mul_ne_zero a.den_nz b.den_nz
end Go.Eng

namespace Go.Eng
def sP(s:List UInt8):Nat:=s.findIdx (·==47)
def spn(s:List UInt8):List UInt8:=s.take (sP s)
def spd(s:List UInt8):List UInt8:=if sP s<s.length then s.drop (sP s+1) else [49]
theorem qD8(s:List UInt8):sP s≤s.length:=List.findIdx_le_length
theorem qEL{s:List UInt8}{i:Nat}(h:i<s.length)(h1:s[i]=47)(h2:∀j (hj:j<i),s[j]≠47):sP s=i:=by
 unfold sP
 rw[List.findIdx_eq h]
 exact⟨by simp[h1],fun j hj=>by simp[h2 j hj]⟩
theorem qtA{s:List UInt8}(h:∀c,c∈s→c≠47):sP s=s.length:=by
 unfold sP
 rw[List.findIdx_eq_length]
 intro x hx
 simpa using h x hx
theorem qBf{s t:List UInt8}(h:∀c,c∈s→c≠47):sP (s++47::t)=s.length:=by
 apply qEL (by simp)
 ·simp
 ·intro j hj
  rw[List.getElem_append_left hj]
  exact h _ (List.getElem_mem hj)
theorem qBF(q:Rat):spn (tQ q)=tI q.num:=by
 unfold spn
 by_cases h:q.den=1
 ·rw[qb7 h,qtA (qrF _),List.take_length]
 ·rw[q5R h,qBf (qrF _)];simp
theorem qCb(q:Rat):spd (tQ q)=tN q.den:=by
 unfold spd
 by_cases h:q.den=1
 ·rw[qb7 h,qtA (qrF _),if_neg (Nat.lt_irrefl _),h];rfl
 ·rw[q5R h,qBf (qrF _),if_pos (by simp)];simp
theorem qEU(s:List UInt8)(hl:s.length≤9223372036854775807):(q5O [.s s]).run=some (0,[.i (if sP s<s.length then (sP s:Int) else -1)]):=by
 rw[qr0]
 obtain⟨j,qs,h1,h2⟩:=yl (S:=q2G) (fun k ps=>∃i:Nat,ps=[.s s,.i (i:Int)]∧i+k=s.length∧∀j (hj:j<i) (hj2:j<s.length),s[j]≠47)
  (fun j qs=>(¬sP s<s.length∧j=0∧qs=[])∨(sP s<s.length∧j=1∧qs=[.i (sP s:Int)])) (n:=s.length) (by omega) (fun k ps hk ⟨i,hps,hi,hd⟩=>by
  subst hps
  rw[qos]
  by_cases hlt:i<s.length
  ·have a1:(i:Int)<qu s:=by unfold qu;omega
   have a2:(0:Int)≤(i:Int):=by omega
   have hs:=qq3 hlt
   have hw:ql .i64 (i:Int) 1=((i+1:Nat):Int):=by rw[z7 (by omega)];omega
   by_cases b1:s[i]=47
   ·right
    have e:=qEL hlt b1 (fun j hj=>hd j hj (by omega))
    have b2:(s[i].toNat:Int)=47:=by rw[b1];rfl
    refine⟨1,[.i (i:Int)],?_,.inr ⟨by rw[e];exact hlt,rfl,by rw[e]⟩⟩
    simp only[STD,a1,a2,hs,b2,and_self]
   ·left
    have b2:¬(s[i].toNat:Int)=47:=fun h=>b1 (UInt8.toNat_inj.1 (by show s[i].toNat=47;omega))
    refine⟨k-1,[.s s,.i ((i+1:Nat):Int)],by omega,?_,i+1,rfl,by omega,?_⟩
    ·simp only[STD,a1,a2,hs,b2,and_self,hw]
    ·intro j hj hj2
     rcases Nat.lt_or_ge j i with h|h
     ·exact hd j h hj2
     ·obtain rfl:j=i:=by omega
      exact b1
  ·right
   have a1:¬((i:Int)<qu s):=by unfold qu;omega
   refine⟨0,[],?_,.inl ⟨?_,rfl,rfl⟩⟩
   ·simp only[STD,a1]
   ·rw[qtA]
    ·omega
    ·intro c hc
     obtain⟨j,hj,rfl⟩:=List.mem_iff_getElem.1 hc
     exact hd j (by omega) hj) (ps:=[.s s,.i 0]) ⟨0,rfl,by omega,fun j hj=>by omega⟩
 rcases h2 with⟨h2,rfl,rfl⟩|⟨h2,rfl,rfl⟩
 ·rw[if_neg h2];simp only[STD,h1,qD h1]
 ·rw[if_pos h2];simp only[STD,h1,qD h1,show ¬(1=0) by omega]
theorem qEI(s:List UInt8)(hl:s.length≤9223372036854775807):(yR [.s s]).run=some (0,[.s (spn s),.s (spd s)]):=by
 rw[qr3]
 have hs:=qEU s hl
 have hle:=qD8 s
 unfold spd spn
 by_cases h:sP s<s.length
 ·rw[if_pos h] at hs ⊢
  have a1:¬((sP s:Int)<0):=by omega
  have a2:(sP s:Int)≤qu s:=by unfold qu;omega
  have hw:ql .i64 (sP s:Int) 1=((sP s+1:Nat):Int):=by rw[z7 (by omega)];omega
  have a3:((sP s+1:Nat):Int)≤qu s:=by unfold qu;omega
  have e1:qcK s 0 (sP s:Int)=s.take (sP s):=by simp[qcK]
  have e2:qcK s ((sP s+1:Nat):Int) (qu s)=s.drop (sP s+1):=by
   unfold qcK qu
   simp only[Int.toNat_natCast,List.take_length]
  simp only[STD,hs,a1,a2,hw,a3,e1,e2,show (0:Int)≤(sP s:Int) by omega,show (0:Int)≤((sP s+1:Nat):Int) by omega,show (0:Int)≤qu s by unfold qu;omega,Int.le_refl,and_self]
 ·rw[if_neg h] at hs ⊢
  have e:s.take (sP s)=s:=List.take_of_length_le (by omega)
  rw[e]
  simp only[STD,hs,show (-1:Int)<0 by omega]
theorem qDY(q:Rat):(tQ q).length≤qn q+qd q+2:=by
 have h1:=qw8 q.num
 unfold qn qd nl dl
 by_cases h:q.den=1
 ·rw[qb7 h];omega
 ·rw[q5R h];simp;omega
theorem qtH(q:Rat)(hn:qn q≤400000)(hd:qd q≤400000):(yR [.s (tQ q)]).run=some (0,[.s (tI q.num),.s (tI (q.den:Int))]):=by
 have:=qDY q
 rw[qEI _ (by omega),qBF,qCb,q0K]
theorem qgG(a b:Rat)(ha:qn a≤400000)(ha':qd a≤400000)(hb:qn b≤400000)(hb':qd b≤400000) :
  (zv [.s (tQ a),.s (tQ b)]).run=some (0,[.r [[.s (tI (a.num*b.den))],[.s (tI (b.num*a.den))],[.s (tI (a.den*b.den))],[.s (tI (a.num*b.num))],[.s (tI (a.den*b.num))]]]):=by
 rw[qo5]
 have t:=fun (m n:Int) (h1:nl m≤400000) (h2:nl n≤400000)=>qkC m n (by omega) (by omega)
 simp only[STD,qtH a ha ha',qtH b hb hb',t a.num b.den ha hb',t b.num a.den hb ha',t a.den b.den ha' hb',t a.num b.num ha hb,t a.den b.num ha' hb]
theorem qaa(n:Nat):(tN n=[49])=(n=1):=by
 have:tN 1=[49]:=rfl
 rw[←this];exact propext ⟨fun h=>qsw h,fun h=>by rw[h]⟩
theorem qlX(m n:Int)(hn:n≠0)(hm':nl m≤400000)(hn':nl n≤400000):(zN [.s (tI m),.s (tI n)]).run=some (0,[.s (tQ (Rat.divInt m n))]):=by
 rw[qpd]
 have hS:=qrc m n hm' hn'
 have hg0:0<Nat.gcd m.natAbs n.natAbs:=Nat.gcd_pos_of_pos_right _ (by omega)
 have hgn:Nat.gcd m.natAbs n.natAbs≤n.natAbs:=Nat.gcd_le_right _ (by omega)
 have hgl:(tN (Nat.gcd m.natAbs n.natAbs)).length≤400000:=Nat.le_trans (uX hgn) hn'
 have hnum:=Rat.num_divInt m n
 have hden:=Rat.den_divInt m n
 rw[if_neg hn] at hden
 have hgc:Int.gcd n m=Nat.gcd m.natAbs n.natAbs:=by unfold Int.gcd;exact Nat.gcd_comm _ _
 rw[hgc] at hnum hden
 obtain⟨k,hk⟩:((Nat.gcd m.natAbs n.natAbs:Nat):Int) ∣ m:=Int.ofNat_dvd_left.2 (Nat.gcd_dvd_left _ _)
 obtain⟨l,hl⟩:((Nat.gcd m.natAbs n.natAbs:Nat):Int) ∣ n:=Int.ofNat_dvd_left.2 (Nat.gcd_dvd_right _ _)
 generalize Nat.gcd m.natAbs n.natAbs=g at *
 generalize Rat.divInt m n=q at *
 have hB:=vK n
 have hm2:k*(g:Int)=m:=by rw[Int.mul_comm];exact hk.symm
 have hn2:l*(g:Int)=n:=by rw[Int.mul_comm];exact hl.symm
 have hql:nl q.num≤400000:=by
  refine Nat.le_trans (qcv ?_) hm'
  rw[hnum]
  refine Nat.le_trans (Int.natAbs_ediv_le_natAbs _ _) ?_
  rw[Int.natAbs_mul,Int.natAbs_sign_of_ne_zero hn];omega
 have hdl:(tN q.den).length≤400000:=by
  refine Nat.le_trans (uX ?_) hn'
  rw[hden];exact Nat.div_le_self _ _
 have hil:=qw8 q.num
 have hil2:(tN q.num.natAbs).length≤400000:=hql
 have fin:(Tree.br (seq (tI (q.den:Int)) [49]) (Tree.leaf (0,[PV.s (tI q.num)])) (Tree.br (ile (qu (tI q.num)+qu [47]) 140737488355328) (Tree.br (ile (qu (qdh (tI q.num) [47])+qu (tI (q.den:Int))) 140737488355328)
   (Tree.leaf (0,[PV.s (qdh (qdh (tI q.num) [47]) (tI (q.den:Int)))])) Tree.fail) Tree.fail)).run=some (0,[PV.s (tQ q)]):=by
  rw[q0K]
  have a1:qu (tI q.num)+qu [47]≤140737488355328:=by unfold qu;simp;omega
  have a2:qu (qdh (tI q.num) [47])+qu (tN q.den)≤140737488355328:=by unfold qu qdh;simp;omega
  by_cases h1:q.den=1
  ·simp only[STD,zW,qaa,h1,qb7 h1]
  ·simp only[STD,zW,qaa,h1,q5R h1,a1,a2]
   simp[qdh]
 by_cases hneg:n<0
 ·have hT:=qcZ (g:Int) (by simp only[Int.natAbs_natCast];omega)
  rw[q0K] at hT
  have e1:fq m (-(g:Int))=q.num:=by
   have:fq ((-k)*(-(g:Int))) (-(g:Int))=-k:=qoE (by omega)
   rw[show (-k)*(-(g:Int))=m by rw[Int.neg_mul_neg];exact hm2] at this
   rw[this,hnum,Int.sign_eq_neg_one_of_neg hneg,←hm2]
   rw[show (-1:Int)*(k*(g:Int))=(-k)*(g:Int) by rw[Int.neg_mul,Int.one_mul,Int.neg_mul]]
   exact(Int.mul_ediv_cancel _ (by omega)).symm
  have e2:fq n (-(g:Int))=(q.den:Int):=by
   have:fq ((-l)*(-(g:Int))) (-(g:Int))=-l:=qoE (by omega)
   rw[show (-l)*(-(g:Int))=n by rw[Int.neg_mul_neg];exact hn2] at this
   rw[this,hden]
   have h3:(n.natAbs:Int)=(-l)*(g:Int):=by rw[Int.neg_mul];omega
   rw[Int.natCast_ediv,h3,Int.mul_ediv_cancel _ (by omega)]
  have P1:=q4b m (-(g:Int)) (by omega) hm' (by rw[qp3];exact hgl)
  have P2:=q4b n (-(g:Int)) (by omega) hn' (by rw[qp3];exact hgl)
  rw[e1] at P1
  rw[e2] at P2
  simp only[STD,hS,hB,hneg,hT,P1,P2] at fin ⊢
  exact fin
 ·have e1:fq m (g:Int)=q.num:=by
   have:fq (k*(g:Int)) (g:Int)=k:=qoE (by omega)
   rw[hm2] at this
   rw[this,hnum,Int.sign_eq_one_of_pos (by omega),Int.one_mul,←hm2]
   exact(Int.mul_ediv_cancel _ (by omega)).symm
  have e2:fq n (g:Int)=(q.den:Int):=by
   have:fq (l*(g:Int)) (g:Int)=l:=qoE (by omega)
   rw[hn2] at this
   rw[this,hden]
   have h3:(n.natAbs:Int)=l*(g:Int):=by omega
   rw[Int.natCast_ediv,h3,Int.mul_ediv_cancel _ (by omega)]
  have P1:=q4b m (g:Int) (by omega) hm' hgl
  have P2:=q4b n (g:Int) (by omega) hn' hgl
  rw[e1,q0K] at P1
  rw[e2,q0K] at P2
  simp only[STD,hS,hB,hneg,P1,P2] at fin ⊢
  rw[q0K] at fin
  exact fin
def sm(K:Nat)(q:Rat):Prop:=qn q≤K∧qd q≤K
theorem qwx(a:Rat):(0:Int)<(a.den:Int):=by have:=a.den_nz;omega
theorem q8c{a b:Rat}(ha:sm 100000 a)(hb:sm 100000 b):(jE [.s (tQ a),.s (tQ b)]).run=some (0,[.s (tQ (a+b))]):=by
 rw[qtG]
 obtain⟨h1,h2⟩:=ha
 obtain⟨h3,h4⟩:=hb
 have hc:=qgG a b (by omega) (by omega) (by omega) (by omega)
 simp only[qn,qd] at h1 h2 h3 h4
 have l1:=yJ a.num b.den
 have l2:=yJ b.num a.den
 have l3:=yJ a.den b.den
 rw[qgr] at l1 l2 l3
 rw[qgr] at l3
 have l4:=qs8 (a.num*b.den) (b.num*a.den)
 have hP:=qnv (a.num*b.den) (b.num*a.den) (by omega) (by omega)
 have hL:=qlX (a.num*b.den+b.num*a.den) (a.den*b.den) (by have:=Int.mul_pos (qwx a) (qwx b);omega) (by omega) (by omega)
 have e:Rat.divInt (a.num*b.den+b.num*a.den) ((a.den:Int)*(b.den:Int))=a+b:=by
  rw[Rat.add_def',←Rat.divInt_ofNat];simp
 rw[e] at hL
 simp only[STD,hc,cS,vu,qh,List.length_cons,List.length_nil,Int.toNat_zero,List.getD_cons_zero,U.toS,show (1:Int).toNat=1 from rfl,show (2:Int).toNat=2 from rfl,List.getD_cons_succ,hP,hL]
 simp[]
theorem q38{a b:Rat}(ha:sm 100000 a)(hb:sm 100000 b):(wt [.s (tQ a),.s (tQ b)]).run=some (0,[.s (tQ (a-b))]):=by
 rw[qrn]
 obtain⟨h1,h2⟩:=ha
 obtain⟨h3,h4⟩:=hb
 have hc:=qgG a b (by omega) (by omega) (by omega) (by omega)
 simp only[qn,qd] at h1 h2 h3 h4
 have l1:=yJ a.num b.den
 have l2:=yJ b.num a.den
 have l3:=yJ a.den b.den
 rw[qgr] at l1 l2 l3
 rw[qgr] at l3
 have l4:=qyG (a.num*b.den) (b.num*a.den)
 have hP:=q9b (a.num*b.den) (b.num*a.den) (by omega) (by omega)
 have hL:=qlX (a.num*b.den-b.num*a.den) (a.den*b.den) (by have:=Int.mul_pos (qwx a) (qwx b);omega) (by omega) (by omega)
 have e:Rat.divInt (a.num*b.den-b.num*a.den) ((a.den:Int)*(b.den:Int))=a-b:=by
  rw[Rat.sub_def',←Rat.divInt_ofNat];simp
 rw[e] at hL
 simp only[STD,hc,cS,vu,qh,List.length_cons,List.length_nil,Int.toNat_zero,List.getD_cons_zero,U.toS,show (1:Int).toNat=1 from rfl,show (2:Int).toNat=2 from rfl,List.getD_cons_succ,hP,hL]
 simp[]
theorem vL{a b:Rat}(ha:sm 100000 a)(hb:sm 100000 b):(z6 [.s (tQ a),.s (tQ b)]).run=some (0,[.s (tQ (a*b))]):=by
 rw[qrd]
 obtain⟨h1,h2⟩:=ha
 obtain⟨h3,h4⟩:=hb
 have hc:=qgG a b (by omega) (by omega) (by omega) (by omega)
 simp only[qn,qd] at h1 h2 h3 h4
 have l1:=yJ a.num b.num
 have l3:=yJ a.den b.den
 rw[qgr,qgr] at l3
 have hL:=qlX (a.num*b.num) (a.den*b.den) (by have:=Int.mul_pos (qwx a) (qwx b);omega) (by omega) (by omega)
 have e:Rat.divInt (a.num*b.num) ((a.den:Int)*(b.den:Int))=a*b:=by
  rw[Rat.mul_def',←Rat.divInt_ofNat];simp
 rw[e] at hL
 simp only[STD,hc,cS,vu,qh,List.length_cons,List.length_nil,U.toS,show (3:Int).toNat=3 from rfl,show (2:Int).toNat=2 from rfl,List.getD_cons_succ,List.getD_cons_zero,hL]
 simp[]
theorem qsH{a b:Rat}(hb0:b≠0)(ha:sm 100000 a)(hb:sm 100000 b):(qa9 [.s (tQ a),.s (tQ b)]).run=some (0,[.s (tQ (a/b))]):=by
 rw[qxy]
 obtain⟨h1,h2⟩:=ha
 obtain⟨h3,h4⟩:=hb
 have hc:=qgG a b (by omega) (by omega) (by omega) (by omega)
 simp only[qn,qd] at h1 h2 h3 h4
 have l1:=yJ a.num b.den
 have l3:=yJ a.den b.num
 rw[qgr] at l1 l3
 have hbn:b.num≠0:=fun h=>hb0 (Rat.num_eq_zero.1 h)
 have hL:=qlX (a.num*b.den) (a.den*b.num) (by have:=qwx a;exact Int.mul_ne_zero (by omega) hbn) (by omega) (by omega)
 have e:Rat.divInt (a.num*b.den) ((a.den:Int)*b.num)=a/b:=by
  rw[Rat.div_def,Rat.inv_def,←Rat.divInt_mul_divInt,Rat.num_divInt_den]
 rw[e] at hL
 simp only[STD,hc,cS,vu,qh,List.length_cons,List.length_nil,U.toS,Int.toNat_zero,show (4:Int).toNat=4 from rfl,List.getD_cons_succ,List.getD_cons_zero,hL]
 simp[]
theorem qub{a b:Rat}(ha:sm 100000 a)(hb:sm 100000 b):(q6p [.s (tQ a),.s (tQ b)]).run=some (0,[.i (sgq (a-b))]):=by
 rw[qrr]
 obtain⟨h1,h2⟩:=ha
 obtain⟨h3,h4⟩:=hb
 have hc:=qgG a b (by omega) (by omega) (by omega) (by omega)
 simp only[qn,qd] at h1 h2 h3 h4
 have l1:=yJ a.num b.den
 have l2:=yJ b.num a.den
 rw[qgr] at l1 l2
 have hP:=qlN (a.num*b.den) (b.num*a.den) (by omega) (by omega)
 rw[←qER] at hP
 simp only[STD,hc,cS,vu,qh,List.length_cons,List.length_nil,U.toS,Int.toNat_zero,show (1:Int).toNat=1 from rfl,List.getD_cons_succ,List.getD_cons_zero,hP]
 simp[]
theorem q7C{a:Rat}(ha:sm 100000 a):(jv [.s (tQ a)]).run=some (0,[.i (sgq a)]):=by
 rw[qpH]
 obtain⟨h1,h2⟩:=ha
 have hP:=qlN a.num 0 (by unfold qn at h1;omega) (by decide)
 rw[Int.sub_zero,show tI 0=[48] from rfl] at hP
 simp only[STD,qtH a (by omega) (by omega),hP]
 rfl
theorem qEs(K:Nat):sm (K+1) 0:=⟨by show 1≤K+1;omega,by show 1≤K+1;omega⟩
theorem qd6{a:Rat}(ha:sm 100000 a):(u4 [.s (tQ a)]).run=some (0,[.s (tQ (-a))]):=by
 rw[qqa]
 have h:=q38 (a:=0) (b:=a) (qEs 99999) ha
 rw[show tQ 0=[48] from rfl,show (0:Rat)-a=-a by grind] at h
 simp only[STD,h]
def qf0(a b c:Rat):Int:=if 0≤sgq a*(sgq b*sgq c) then (if sgq a=0 then sgq b*sgq c else sgq a) else sgq a*sgq (a*a-b*b*c)
theorem qhi(q:Rat):-1≤sgq q∧sgq q≤1:=by rcases q8e q with⟨_,e⟩|⟨_,e⟩|⟨_,e⟩<;>rw[e]<;>decide
theorem qGq{x y:Int}(hx:-1≤x∧x≤1)(hy:-1≤y∧y≤1):-1≤x*y∧x*y≤1:=by
 have:=qCT (A:=1) (B:=1) hx.1 hx.2 hy.1 hy.2
 omega
theorem qfb{x y:Int}(hx:-1≤x∧x≤1)(hy:-1≤y∧y≤1):yM .i64 x y=x*y:=q17 (by have:=qGq hx hy;omega)
theorem quJ{K L:Nat}{a b:Rat}(ha:sm K a)(hb:sm L b):sm (K+L) (a*b):=
 ⟨Nat.le_trans (qAU a b) (Nat.add_le_add ha.1 hb.1),Nat.le_trans (qBr a b) (Nat.add_le_add ha.2 hb.2)⟩
theorem q22{K L:Nat}{a:Rat}(ha:sm K a)(h:K≤L):sm L a:=⟨Nat.le_trans ha.1 h,Nat.le_trans ha.2 h⟩
theorem quO{a b c:Rat}(ha:sm 30000 a)(hb:sm 30000 b)(hc:sm 30000 c):(q8a [.s (tQ a),.s (tQ b),.s (tQ c)]).run=some (0,[.i (qf0 a b c)]):=by
 rw[qtr]
 have ba:=qhi a
 have bb:=qhi b
 have bc:=qhi c
 have bd:=qhi (a*a-b*b*c)
 have h1:=vL (q22 ha (by omega)) (q22 ha (by omega))
 have h2:=vL (q22 hb (by omega)) (q22 hb (by omega))
 have hbb:=quJ hb hb
 have h3:=vL (a:=b*b) (b:=c) (q22 hbb (by omega)) (q22 hc (by omega))
 have h4:=qub (a:=a*a) (b:=b*b*c) (q22 (quJ ha ha) (by omega)) (q22 (quJ hbb hc) (by omega))
 simp only[STD,q7C (q22 ha (show 30000≤100000 by omega)),q7C (q22 hb (show 30000≤100000 by omega)),q7C (q22 hc (show 30000≤100000 by omega)),
  qfb bb bc,qfb ba (qGq bb bc),h1,h2,h3,h4,qfb ba bd]
 unfold qf0
 split
 ·split<;>rfl
 ·rfl
end Go.Eng

namespace Go.Eng
def mv:List Int→Int
 | []=>0
 | x::l=>x+1000000000*mv l
def pB(n:Nat):Int:=1000000000^n
theorem q5C:pB 0=1:=rfl
theorem qaw(n:Nat):pB (n+1)=pB n*1000000000:=Int.pow_succ _ _
theorem qcs:∀n,0<pB n
 | 0=>by decide
 | n+1=>by rw[qaw];have:=qcs n;omega
theorem qFO(m n:Nat):pB (m+n)=pB m*pB n:=Int.pow_add _ _ _
theorem qcA{m n:Nat}(h:m≤n):pB m≤pB n:=by
 obtain⟨k,rfl⟩:∃k,n=m+k:=⟨n-m,by omega⟩
 induction k with
 | zero=>simp
 | succ k ih=>
  have h1:=ih (by omega)
  rw[show m+(k+1)=(m+k)+1 by omega,qaw]
  have:=qcs (m+k)
  omega
def dgs(l:List Int):Prop:=∀x,x∈l→0≤x∧x<1000000000
theorem qyy:∀(l:List Int) (j:Nat) (h:j<l.length) (y:Int),mv (l.set j y)=mv l+(y-l[j])*pB j
 | [],j,h,_=>by simp at h
 | x::l,0,_,y=>by simp only[List.set_cons_zero,mv,List.getElem_cons_zero,q5C];omega
 | x::l,j+1,h,y=>by
  have ih:=qyy l j (by simpa using h) y
  simp only[List.set_cons_succ,mv,List.getElem_cons_succ,qaw]
  rw[ih]
  grind
theorem qA1:∀(l:List Int) (n:Nat),dgs l→(∀i,n≤i→l.getD i 0=0)→0≤mv l∧mv l<pB n
 | [],n,_,_=>⟨Int.le_refl _,qcs n⟩
 | x::l,0,hd,hz=>by
  have ih:=qA1 l 0 (fun y hy=>hd y (List.mem_cons_of_mem _ hy)) (fun i _=>by have:=hz (i+1) (by omega);simpa using this)
  have hx:x=0:=by simpa using hz 0 (by omega)
  rw[q5C] at ih ⊢
  simp only[mv];omega
 | x::l,n+1,hd,hz=>by
  have ih:=qA1 l n (fun y hy=>hd y (List.mem_cons_of_mem _ hy)) (fun i hi=>by have:=hz (i+1) (by omega);simpa using this)
  have hx:=hd x List.mem_cons_self
  rw[qaw]
  simp only[mv]
  generalize pB n=p at *
  omega
theorem qFt:∀(l:List Int) (j:Nat) (h:j<l.length),dgs l→l[j]≠0→pB j≤mv l
 | [],j,h,_,_=>by simp at h
 | x::l,0,_,hd,hx=>by
  have h1:=hd x List.mem_cons_self
  have h2:=(qA1 l l.length (fun y hy=>hd y (List.mem_cons_of_mem _ hy)) (fun i hi=>by simp[List.getD_eq_getElem?_getD,hi])).1
  simp only[List.getElem_cons_zero] at hx
  simp only[mv,q5C];omega
 | x::l,j+1,h,hd,hx=>by
  have ih:=qFt l j (by simpa using h) (fun y hy=>hd y (List.mem_cons_of_mem _ hy)) (by simpa using hx)
  have h1:=hd x List.mem_cons_self
  rw[qaw]
  simp only[mv];omega
theorem qz3:∀(s t:List Int),mv (s++t)=mv s+pB s.length*mv t
 | [],t=>by simp[mv,q5C]
 | x::s,t=>by
  simp only[List.cons_append,mv,List.length_cons,qaw]
  rw[qz3 s t];grind
theorem qf8(n:Nat):mv (List.replicate n 0)=0:=by
 induction n with
 | zero=>rfl
 | succ n ih=>simp[List.replicate_succ,mv,ih]
theorem qcX{l:List Int}{i:Nat}(h:i<l.length):mv (l.drop i)=l[i]+1000000000*mv (l.drop (i+1)):=by
 rw[List.drop_eq_getElem_cons h];rfl
theorem ve{l:List Int}{n i:Nat}(hd:dgs l)(hz:∀i,n≤i→l.getD i 0=0)(hi:n≤i):mv (l.drop i)=0:=by
 have:=qA1 (l.drop i) 0 (fun x hx=>hd x (List.mem_of_mem_drop hx)) (fun j _=>by
  have:=hz (i+j) (by omega)
  simpa[List.getD_eq_getElem?_getD] using this)
 rw[q5C] at this
 omega
structure WOK (n:Nat) (l:List Int):Prop where
 len:l.length=232
 le:n≤232
 dig:dgs l
 z:∀i,n≤i→l.getD i 0=0
def nrm(n:Nat)(l:List Int):Prop:=n=0∨l.getD (n-1) 0≠0
theorem WOK.bd{n:Nat}{l:List Int}(h:WOK n l):0≤mv l∧mv l<pB n:=qA1 l n h.dig h.z
theorem WOK.lo{n:Nat}{l:List Int}(h:WOK n l)(hn:nrm n l)(h0:n≠0):pB (n-1)≤mv l:=by
 have h1:=h.le
 have h2:=h.len
 rcases hn with hn|hn
 ·exact absurd hn h0
 ·refine qFt l (n-1) (by omega) h.dig ?_
  rwa [jx (by omega)] at hn
theorem qw3(N i:Nat):(List.replicate N (0:Int)).getD i 0=0:=by
 rw[List.getD_eq_getElem?_getD,List.getElem?_replicate];split<;>rfl
theorem qB6(N:Nat):dgs (List.replicate N 0):=fun x hx=>by
 have:=(List.mem_replicate.1 hx).2
 omega
theorem WOK.zero:WOK 0 (List.replicate 232 0):=
 ⟨List.length_replicate,by omega,qB6 232,fun i _=>qw3 232 i⟩
theorem WOK.get{n:Nat}{l:List Int}(h:WOK n l)(i:Nat):0≤l.getD i 0∧l.getD i 0<1000000000:=by
 rcases Nat.lt_or_ge i l.length with hi|hi
 ·rw[jx hi];exact h.dig _ (List.getElem_mem hi)
 ·simp[List.getD_eq_getElem?_getD,hi]
theorem WOK.setW{n:Nat}{l:List Int}(h:WOK n l){j:Nat}{y:Int}(hj:j<232)(hy:0≤y∧y<1000000000):WOK (max n (j+1)) (l.set j y):=by
 have h1:=h.le
 refine⟨by simp[h.len],by omega,fun x hx=>?_,fun i hi=>?_⟩
 ·rcases List.mem_or_eq_of_mem_set hx with hx|rfl
  ·exact h.dig x hx
  ·exact hy
 ·have:=h.z i (by omega)
  rw[List.getD_eq_getElem?_getD,List.getElem?_set_ne (by omega),←List.getD_eq_getElem?_getD]
  exact this
theorem q5g(l:List Int)(i:Nat):cI (rI l) (i:Int) 0=l.getD i 0:=by rw[qEQ,Int.toNat_natCast]
theorem qjg(l:List Int)(i:Nat)(v:Int):qec (rI l) (i:Int) 0 [.i v]=rI (l.set i v):=by rw[quU,Int.toNat_natCast]
theorem qlD{n:Nat}{l:List Int}(h:WOK n l)(b:Bool):∃m,(qC [.b b,.i (n:Int),.r (rI l)]).run=some (0,[.b b,.i ((m:Nat):Int),.r (rI l)])∧WOK m l∧nrm m l:=by
 rw[qhH]
 have h232:=h.le
 obtain⟨j,qs,h1,rfl,m,rfl,h3,h4⟩:=yl (S:=jb) (fun k ps=>ps=[.b b,.i (k:Int),.r (rI l)]∧WOK k l)
  (fun j qs=>j=0∧∃m:Nat,qs=[.b b,.i (m:Int),.r (rI l)]∧WOK m l∧nrm m l) (n:=n) (by omega) (fun k ps hk ⟨hps,hw⟩=>by
  subst hps
  rw[qfe]
  have hk2:=hw.le
  by_cases h0:k=0
  ·right
   refine⟨0,_,?_,rfl,k,rfl,hw,.inl h0⟩
   simp only[STD,h0]
   rfl
  ·have hs:qv .i64 (k:Int) 1=((k-1:Nat):Int):=by rw[zT (by omega)];omega
   have a1:(0:Int)<(k:Int):=by omega
   have a2:(0:Int)≤((k-1:Nat):Int)∧((k-1:Nat):Int)<232:=by omega
   by_cases hz:l.getD (k-1) 0=0
   ·left
    refine⟨k-1,[.b b,.i ((k-1:Nat):Int),.r (rI l)],by omega,?_,rfl,hw.len,by omega,hw.dig,fun i hi=>?_⟩
    ·simp only[STD,a1,hs,a2,q5g,hz,and_self]
    ·rcases Nat.eq_or_lt_of_le hi with e|e
     ·rw[←e];exact hz
     ·exact hw.z i (by omega)
   ·right
    refine⟨0,[.b b,.i (k:Int),.r (rI l)],?_,rfl,k,rfl,hw,.inr hz⟩
    simp only[STD,a1,hs,a2,q5g,hz,and_self]) (ps:=[.b b,.i (n:Int),.r (rI l)]) ⟨rfl,h⟩
 exact⟨m,by simp only[STD,h1],h3,h4⟩
theorem qGc(s:Int):∃q r:Int,s.tdiv 1000000000=q∧s=q*1000000000+r∧(0≤s→0≤r)∧(s≤0→r≤0)∧-1000000000<r∧r<1000000000:=by
 obtain⟨h1,h2,h3,h4⟩:=qmU s (show (1000000000:Int)≠0 by decide)
 refine⟨_,q6E s 1000000000,rfl,by omega,h3,h4,by omega,by omega⟩
theorem qzO{f up rest:Int}{i n j:Nat}{l ly:List Int}{bx b2:Bool}{ny:Nat}{S:Int}(hj:((j:Nat):Int)=ql .i64 (i:Int) up)(hj2:j<232)(hw:WOK n l)(hin:i<233)
  (hS:S=if i<ny then l.getD j 0+rest+f*ly.getD i 0 else l.getD j 0+rest) (hr:-1000000000≤rest∧rest≤1000000000) (hfy:-999999999999999999≤f*ly.getD i 0∧f*ly.getD i 0≤999999999999999999) (hny:ny≤232)
  (hgo:i<ny∨rest≠0) :
  ∃q s:Int,S=q*1000000000+s∧0≤s∧s<1000000000 ∧
   (vU [.i f,.i up,.i rest,.i (i:Int),.b bx,.i (n:Int),.r (rI l),.b b2,.i (ny:Int),.r (rI ly)]).run=some (0,[.i f,.i up,.i q,.i ((i+1:Nat):Int),.b bx,.i ((max n (j+1):Nat):Int),.r (rI (l.set j s)),.b b2,.i (ny:Int),.r (rI ly)]):=by
 have hg:=hw.get j
 obtain⟨q,r,e1,e2,e3,e4,e5,e6⟩:=qGc S
 have hSb:-1000000000999999999≤S∧S≤1000000001999999998:=by rw[hS];split<;>omega
 have w1:yY .i64 S 1000000000=q:=by
  unfold yY
  rw[e1]
  unfold IntKind.wrap
  simp[IntKind.signed,IntKind.bits];omega
 have w2:yM .i64 q 1000000000=q*1000000000:=q17 (by omega)
 have w3:qv .i64 S (q*1000000000)=r:=by rw[zT (by omega)];omega
 have w4:ql .i64 (l.getD j 0) rest=l.getD j 0+rest:=z7 (by omega)
 have w5:ql .i64 (i:Int) 1=((i+1:Nat):Int):=by rw[z7 (by omega)];omega
 have w6:ql .i64 (j:Int) 1=((j+1:Nat):Int):=by rw[z7 (by omega)];omega
 have w7:qgb (n:Int) ((j+1:Nat):Int)=((max n (j+1):Nat):Int):=qtc _ _
 have a1:(0:Int)≤(j:Int)∧(j:Int)<232:=by omega
 have hw8:r<0→ql .i64 r 1000000000=r+1000000000:=fun _=>z7 (by omega)
 have hw9:r<0→qv .i64 q 1=q-1:=fun _=>zT (by omega)
 rw[q89]
 by_cases hi:i<ny
 ·rw[if_pos hi] at hS
  have a2:(i:Int)<(ny:Int):=by omega
  have a3:(0:Int)≤(i:Int)∧(i:Int)<232:=by omega
  have w10:yM .i64 f (ly.getD i 0)=f*ly.getD i 0:=q17 (by omega)
  have w11:ql .i64 (l.getD j 0+rest) (f*ly.getD i 0)=S:=by rw[z7 (by omega),hS]
  by_cases hneg:r<0
  ·refine⟨q-1,r+1000000000,by omega,by omega,by omega,?_⟩
   simp only[STD,a2,←hj,a1,a3,q5g,w4,w10,w11,w1,w2,w3,hneg,hw8 hneg,hw9 hneg,w5,w6,w7,qjg,and_self]
  ·refine⟨q,r,by omega,by omega,by omega,?_⟩
   simp only[STD,a2,←hj,a1,a3,q5g,w4,w10,w11,w1,w2,w3,hneg,w5,w6,w7,qjg,and_self]
 ·rw[if_neg hi] at hS
  have hr0:rest≠0:=hgo.resolve_left hi
  have a2:¬(i:Int)<(ny:Int):=by omega
  rw[←hS] at w4
  by_cases hneg:r<0
  ·refine⟨q-1,r+1000000000,by omega,by omega,by omega,?_⟩
   simp only[STD,a2,hr0,←hj,a1,q5g,w4,w1,w2,w3,hneg,hw8 hneg,hw9 hneg,w5,w6,w7,qjg,and_self]
  ·refine⟨q,r,by omega,by omega,by omega,?_⟩
   simp only[STD,a2,hr0,←hj,a1,q5g,w4,w1,w2,w3,hneg,w5,w6,w7,qjg,and_self]
theorem qpv{f:Int}{up nx ny:Nat}{lx ly:List Int}(hx:WOK nx lx)(hy:WOK ny ly)(hf:-999999999≤f∧f≤999999999)(hup:ny+up≤232){T:Int}(hT:T=mv lx+f*mv ly*pB up)(h0:0≤T)(h1:T<pB 232)(bx b2:Bool) :
  ∃(n:Nat) (l:List Int),(qL [.i f,.i (up:Int),.b bx,.i (nx:Int),.r (rI lx),.b b2,.i (ny:Int),.r (rI ly)]).run=some (0,[.b bx,.i (n:Int),.r (rI l),.b b2,.i (ny:Int),.r (rI ly)])∧WOK n l∧nrm n l∧mv l=T:=by
 rw[qjm]
 have hny:=hy.le
 obtain⟨j,qs,g1,rfl,n,l,rfl,g3,g4⟩:=yl (S:=vU) (fun k ps=>∃(i n:Nat) (rest:Int) (l:List Int),ps=[.i f,.i (up:Int),.i rest,.i (i:Int),.b bx,.i (n:Int),.r (rI l),.b b2,.i (ny:Int),.r (rI ly)] ∧
   i+k=300∧i≤232∧WOK n l∧-1000000000≤rest∧rest≤1000000000∧mv l+rest*pB (i+up)+f*mv (ly.drop i)*pB (i+up)=T)
  (fun j qs=>j=0∧∃(n:Nat) (l:List Int),qs=[.b bx,.i (n:Int),.r (rI l),.b b2,.i (ny:Int),.r (rI ly)]∧WOK n l∧mv l=T) (n:=300) (by omega) (fun k ps hk ⟨i,n,rest,l,hps,hik,hi,hw,hr1,hr2,hv⟩=>by
  subst hps
  have hg:=hy.get i
  have hfy:=qCT (A:=999999999) (B:=999999999) hf.1 hf.2 (show -(999999999:Int)≤ly.getD i 0 by omega) (show ly.getD i 0≤999999999 by omega)
  have hbd:=hw.bd
  have hn232:=hw.le
  by_cases hgo:i<ny∨rest≠0
  ·left
   have hj:i+up<232:=by
    rcases Nat.lt_or_ge i ny with h|h
    ·omega
    ·rcases Nat.lt_or_ge (i+up) 232 with h2|h2
     ·exact h2
     ·exfalso
      have hr0:=hgo.resolve_left (by omega)
      rw[ve hy.dig hy.z h] at hv
      have hP:=qcA h2
      have hlt:=qcA hn232
      simp only[Int.mul_zero,Int.zero_mul,Int.add_zero] at hv
      generalize pB (i+up)=P at *
      rcases Int.lt_or_lt_of_ne hr0 with h3|h3
      ·have:rest*P≤-1*P:=Int.mul_le_mul_of_nonneg_right (by omega) (by have:=qcs 232;omega)
       omega
      ·have:1*P≤rest*P:=Int.mul_le_mul_of_nonneg_right (by omega) (by have:=qcs 232;omega)
       omega
   have hjw:(((i+up:Nat)):Int)=ql .i64 (i:Int) (up:Int):=by rw[z7 (by omega)];omega
   obtain⟨q,s,s1,s2,s3,s4⟩:=qzO (bx:=bx) (b2:=b2) (f:=f) (ly:=ly) hjw hj hw (by omega) rfl ⟨hr1,hr2⟩ (by omega) hny hgo
   refine⟨k-1,_,by omega,s4,i+1,_,q,_,rfl,by omega,by omega,hw.setW hj ⟨s2,s3⟩,?_,?_,?_⟩
   ·have hgl:=hw.get (i+up)
    split at s1<;>omega
   ·have hgl:=hw.get (i+up)
    split at s1<;>omega
   ·have hjl:i+up<l.length:=by rw[hw.len];exact hj
    rw[qyy l (i+up) hjl,←hv,show i+1+up=(i+up)+1 by omega,qaw]
    rw[jx hjl] at s1
    have hil:i<ly.length:=by rw[hy.len];omega
    rw[qcX hil]
    rw[jx hil] at s1
    generalize pB (i+up)=P at *
    generalize l[i+up]=d at *
    by_cases hiny:i<ny
    ·rw[if_pos hiny] at s1
     generalize ly[i]=y at *
     generalize mv (ly.drop (i+1))=m at *
     grind
    ·rw[if_neg hiny] at s1
     have z1:ly[i]=0:=by rw[←jx hil];exact hy.z i (by omega)
     rw[z1,ve hy.dig hy.z (show ny≤i+1 by omega)]
     grind
  ·right
   have c1:¬i<ny:=fun h=>hgo (.inl h)
   have c2:rest=0:=Decidable.byContradiction fun h=>hgo (.inr h)
   refine⟨0,[.b bx,.i (n:Int),.r (rI l),.b b2,.i (ny:Int),.r (rI ly)],?_,rfl,n,l,rfl,hw,?_⟩
   ·rw[q89]
    have a2:¬(i:Int)<(ny:Int):=by omega
    simp only[STD,a2,c2]
   ·rw[ve hy.dig hy.z (by omega),c2] at hv
    simp only[Int.mul_zero,Int.zero_mul,Int.add_zero] at hv
    exact hv) (ps:=[.i f,.i (up:Int),.i 0,.i 0,.b bx,.i (nx:Int),.r (rI lx),.b b2,.i (ny:Int),.r (rI ly)])
  ⟨0,nx,0,lx,rfl,by omega,by omega,hx,by omega,by omega,by simp[hT]⟩
 obtain⟨m,t1,t2,t3⟩:=qlD g3 bx
 exact⟨m,l,by simp only[STD,g1,t1],t2,t3,g4⟩
end Go.Eng

