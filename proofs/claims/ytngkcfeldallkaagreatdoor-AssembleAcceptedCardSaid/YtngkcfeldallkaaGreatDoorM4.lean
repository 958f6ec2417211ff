/- Texts of the proof, merged: what the code computes, and plain laws. No statement stands here. -/
import Derived.OpenShut
import Derived.Deep.Slices
import Derived.SizedLaws
import Derived.Below
import Derived.Lib.LaidTab
import Derived.Test.YtngkcfeldallkaaGreatDoorM3
namespace Go.Eng
theorem qt5(x0:Int):uc [.i x0]=(.br (ile (-100000) x0) (.leaf (0,[(.b (ile x0 100000))])) (.leaf (0,[(.b false)]))):=by kernel_rfl
theorem qqY(x0:Int):jJ [.i x0]=(.br (ile 1 x0) (.leaf (0,[(.b (ile x0 100000))])) (.leaf (0,[(.b false)]))):=by kernel_rfl
theorem qon(x0:Int)(x1:Int)(x2:Int)(x3:Int)(x4:Int)(x5:Int)(x6:Bool):zY [.i x0,.i x1,.i x2,.i x3,.i x4,.i x5,.b x6]=(.br (okR (uc [(.i x0)])) (.br (not (gB (uc [(.i x0)]) 0)) (.leaf (0,[(.i 2)])) (.br (okR (uc [(.i x1)])) (.br (not (gB (uc [(.i x1)]) 0)) (.leaf (0,[(.i 2)])) (.br (okR (jJ [(.i x2)])) (.br (not (gB (jJ [(.i x2)]) 0)) (.leaf (0,[(.i 2)])) (.br (okR (jJ [(.i x3)])) (.br (not (gB (jJ [(.i x3)]) 0)) (.leaf (0,[(.i 2)])) (.br (ilt x3 x2) (.leaf (0,[(.i 9)])) (.br (ilt x4 0) (.leaf (0,[(.i 2)])) (.br (ilt 100000 x4) (.leaf (0,[(.i 2)])) (.br (not x6) (.br (ile x2 x4) (.leaf (0,[(.i 2)])) (.br (ilt x5 0) (.leaf (0,[(.i 1)])) (.br (ile 3 x5) (.leaf (0,[(.i 1)])) (.leaf (0,[(.i 0)]))))) (.br (ilt x5 0) (.leaf (0,[(.i 1)])) (.br (ile 3 x5) (.leaf (0,[(.i 1)])) (.leaf (0,[(.i 0)]))))))))) .fail)) .fail)) .fail)) .fail):=by kernel_rfl
theorem qaB(y0:Int)(y1:Int)(y2:Int)(y3:Int)(y4:Int)(y5:Int)(y6:Int)(y7:Int)(y8:Bool)(y9:Int)(y10:Int)(y11:Int)(y12:Int)(y13:Int)(y14:Int)(y15:Bool)(y16:R):ue [.i y0,.i y1,.i y2,.i y3,.i y4,.i y5,.i y6,.i y7,.b y8,.i y9,.i y10,.i y11,.i y12,.i y13,.i y14,.b y15,.r y16]=(.br (ilt y1 y0) (.br (inb y1 (qf y16)) (let r0:TR:=(zY [(.i (cI y16 y1 0)),(.i (cI y16 y1 1)),(.i (cI y16 y1 2)),(.i (cI y16 y1 3)),(.i (cI y16 y1 4)),(.i (cI y16 y1 5)),(.b (cB y16 y1 6))])
 .br (okR r0) (.br (ine (gI r0 0) 0) (.leaf (2,[(.i (gI r0 0))])) (.leaf (0,[(.i y0),(.i (qk .i64 y1 1)),(.i y2),(.i y3),(.i y4),(.i y5),(.i y6),(.i y7),(.b y8),(.i y9),(.i y10),(.i y11),(.i y12),(.i y13),(.i y14),(.b y15),(.r y16)]))) .fail) .fail) (.leaf (1,[(.i y2),(.i y3),(.i y4),(.i y5),(.i y6),(.i y7),(.b y8),(.i y9),(.i y10),(.i y11),(.i y12),(.i y13),(.i y14),(.b y15)]))):=by kernel_rfl
theorem qlb(x0:Int)(x1:Int)(x2:Int)(x3:Int)(x4:Int)(x5:Int)(x6:Bool)(x7:Int)(x8:Int)(x9:Int)(x10:Int)(x11:Int)(x12:Int)(x13:Bool):q0F [.i x0,.i x1,.i x2,.i x3,.i x4,.i x5,.b x6,.i x7,.i x8,.i x9,.i x10,.i x11,.i x12,.b x13]=(let r0:TR:=(qj ue [(.i (qf [[(.i x0),(.i x1),(.i x2),(.i x3),(.i x4),(.i x5),(.b x6)],[(.i x7),(.i x8),(.i x9),(.i x10),(.i x11),(.i x12),(.b x13)]])),(.i 0),(.i x0),(.i x1),(.i x2),(.i x3),(.i x4),(.i x5),(.b x6),(.i x7),(.i x8),(.i x9),(.i x10),(.i x11),(.i x12),(.b x13),(.r [[(.i x0),(.i x1),(.i x2),(.i x3),(.i x4),(.i x5),(.b x6)],[(.i x7),(.i x8),(.i x9),(.i x10),(.i x11),(.i x12),(.b x13)]])])
 .br (okR r0) (.br (jIs r0 0) (.br (ine (gI r0 5) 1) (.leaf (0,[(.i 14)])) (.br (ine (gI r0 12) 1) (.leaf (0,[(.i 14)])) (.br (not (qvg (ieq (gI r0 0) (gI r0 7)) (qvg (ieq (gI r0 1) (gI r0 8)) true))) (.leaf (0,[(.i 16)])) (.br (beq (gB r0 6) (gB r0 13)) (.leaf (0,[(.i 16)])) (.leaf (0,[(.i 0)])))))) (.leaf (0,[(.i (gI r0 0))]))) .fail):=by kernel_rfl
theorem q7D(y0:Int)(y1:Int)(y2:R)(y3:R):ut [.i y0,.i y1,.r y2,.r y3]=(.br (ilt y1 y0) (.br (inb y1 (qf y2)) (.br (inb y1 (qf y3)) (let r0:TR:=(q0F [(.i (cI y2 y1 0)),(.i (cI y2 y1 1)),(.i (cI y2 y1 2)),(.i (cI y2 y1 3)),(.i (cI y2 y1 4)),(.i (cI y2 y1 5)),(.b (cB y2 y1 6)),(.i (cI y3 y1 0)),(.i (cI y3 y1 1)),(.i (cI y3 y1 2)),(.i (cI y3 y1 3)),(.i (cI y3 y1 4)),(.i (cI y3 y1 5)),(.b (cB y3 y1 6))])
 .br (okR r0) (.br (ine (gI r0 0) 0) (.leaf (2,[(.i (gI r0 0))])) (.leaf (0,[(.i y0),(.i (qk .i64 y1 1)),(.r y2),(.r y3)]))) .fail) .fail) .fail) (.leaf (1,[]))):=by kernel_rfl
theorem qjF(x0:R)(x1:R):zM [.r x0,.r x1]=(.br (ieq (qf x0) 0) (.leaf (0,[(.i 13)])) (.br (ilt 16 (qf x0)) (.leaf (0,[(.i 5)])) (.br (ine (qf x0) (qf x1)) (.leaf (0,[(.i 8)])) (let r0:TR:=(qj ut [(.i (qf x0)),(.i 0),(.r x0),(.r x1)])
 .br (okR r0) (.br (jIs r0 0) (.leaf (0,[(.i 0)])) (.leaf (0,[(.i (gI r0 0))]))) .fail)))):=by kernel_rfl
theorem qtv(x0:Int)(x1:Int)(x2:Int)(x3:Int)(x4:Int)(x5:Int)(x6:Bool):q5T [.i x0,.i x1,.i x2,.i x3,.i x4,.i x5,.b x6]=(.br x6 (.br (ieq x5 2) (.leaf (0,[(.i x0),(.i x1),(.i x2),(.i x3),(.i x4),(.i x5),(.b x6),(.i (cI [[(.i (-1)),(.i (-1)),(.i 1),(.i 1),(.i 1),(.i (-1))]] 0 5))])) (.br (ieq x5 1) (.leaf (0,[(.i x0),(.i x1),(.i x2),(.i x3),(.i x4),(.i x5),(.b x6),(.i (cI [[(.i (-1)),(.i (-1)),(.i 1),(.i 1),(.i 1),(.i (-1))]] 0 4))])) (.br (ieq x5 0) (.leaf (0,[(.i x0),(.i x1),(.i x2),(.i x3),(.i x4),(.i x5),(.b x6),(.i (cI [[(.i (-1)),(.i (-1)),(.i 1),(.i 1),(.i 1),(.i (-1))]] 0 3))])) .fail))) (.br (ieq x5 2) (.leaf (0,[(.i x0),(.i x1),(.i x2),(.i x3),(.i x4),(.i x5),(.b x6),(.i (cI [[(.i (-1)),(.i (-1)),(.i 1),(.i 1),(.i 1),(.i (-1))]] 0 2))])) (.br (ieq x5 1) (.leaf (0,[(.i x0),(.i x1),(.i x2),(.i x3),(.i x4),(.i x5),(.b x6),(.i (cI [[(.i (-1)),(.i (-1)),(.i 1),(.i 1),(.i 1),(.i (-1))]] 0 1))])) (.br (ieq x5 0) (.leaf (0,[(.i x0),(.i x1),(.i x2),(.i x3),(.i x4),(.i x5),(.b x6),(.i (cI [[(.i (-1)),(.i (-1)),(.i 1),(.i 1),(.i 1),(.i (-1))]] 0 0))])) .fail)))):=by kernel_rfl
theorem qe4(x0:Int)(x1:Int)(x2:Int)(x3:Int)(x4:Int)(x5:Int)(x6:Bool)(x7:Int)(x8:Int):wh [.i x0,.i x1,.i x2,.i x3,.i x4,.i x5,.b x6,.i x7,.i x8]=(.br (ilt x8 0) (.leaf (0,[(.i x2)])) (.leaf (0,[(.i x3)]))):=by kernel_rfl
theorem qlq(x0:Int)(x1:Int)(x2:Int)(x3:Int)(x4:Int)(x5:Int)(x6:Bool):jL [.i x0,.i x1,.i x2,.i x3,.i x4,.i x5,.b x6]=(let r0:TR:=(zY [(.i x0),(.i x1),(.i x2),(.i x3),(.i x4),(.i x5),(.b x6)])
 .br (okR r0) (.br (ine (gI r0 0) 0) (.leaf (0,[(.i 0),(.i (gI r0 0))])) (let r1:TR:=(q5T [(.i x0),(.i x1),(.i x2),(.i x3),(.i x4),(.i x5),(.b x6)])
 .br (okR r1) (let r2:TR:=(wh [(.i (gI r1 0)),(.i (gI r1 1)),(.i (gI r1 2)),(.i (gI r1 3)),(.i (gI r1 4)),(.i (gI r1 5)),(.b (gB r1 6)),(.i (gI r1 7)),(.i (gI r1 7))])
 .br (okR r2) (.leaf (0,[(.i (qk .i64 (gI r2 0) (jF .i64 (gI r1 7) (gI r1 4)))),(.i 0)])) .fail) .fail)) .fail):=by kernel_rfl
theorem q71(y0:R)(y1:Int)(y2:Int)(y3:R)(y4:R)(y5:R):vY [.r y0,.i y1,.i y2,.r y3,.r y4,.r y5]=(.br (ilt y2 y1) (.br (inb y2 (qf y0)) (let r0:TR:=(jL [(.i (cI y0 y2 0)),(.i (cI y0 y2 1)),(.i (cI y0 y2 2)),(.i (cI y0 y2 3)),(.i (cI y0 y2 4)),(.i (cI y0 y2 5)),(.b (cB y0 y2 6))])
 .br (okR r0) (.br (inb y2 (qf y4)) (let r1:TR:=(jL [(.i (cI y4 y2 0)),(.i (cI y4 y2 1)),(.i (cI y4 y2 2)),(.i (cI y4 y2 3)),(.i (cI y4 y2 4)),(.i (cI y4 y2 5)),(.b (cB y4 y2 6))])
 .br (okR r1) (.br (ine (qk .i64 (gI r0 1) (gI r1 1)) 0) (.leaf (2,[(.i (qiz (gI r0 1) (gI r1 1)))])) (.br (cB y0 y2 6) (.br (ile ((qf y5)+(qf [[(.i (qB .i64 (gI r1 0) (gI r0 0)))]])) 17592186044416) (.leaf (0,[(.r y0),(.i y1),(.i (qk .i64 y2 1)),(.r y3),(.r y4),(.r (q3F y5 [[(.i (qB .i64 (gI r1 0) (gI r0 0)))]]))])) .fail) (.br (ile ((qf y5)+(qf [[(.i (qB .i64 (gI r0 0) (gI r1 0)))]])) 17592186044416) (.leaf (0,[(.r y0),(.i y1),(.i (qk .i64 y2 1)),(.r y3),(.r y4),(.r (q3F y5 [[(.i (qB .i64 (gI r0 0) (gI r1 0)))]]))])) .fail))) .fail) .fail) .fail) .fail) (.leaf (1,[(.r y5)]))):=by kernel_rfl
theorem qh6(x0:R)(x1:R):zZ [.r x0,.r x1]=(let r0:TR:=(zM [(.r x0),(.r x1)])
 .br (okR r0) (.br (ine (gI r0 0) 0) (.leaf (0,[(.r []),(.i (gI r0 0))])) (let r1:TR:=(qj vY [(.r x0),(.i (qf x0)),(.i 0),(.r x0),(.r x1),(.r [])])
 .br (okR r1) (.br (jIs r1 0) (.leaf (0,[(.r (gR r1 0)),(.i 0)])) (.leaf (0,[(.r []),(.i (gI r1 0))]))) .fail)) .fail):=by kernel_rfl
theorem qgq(x0:Int)(x1:Int):wk [.i x0,.i x1]=(.leaf (0,[(.b (ilt x1 0))])):=by kernel_rfl
theorem vD(y0:R)(y1:Int)(y2:Int)(y3:R):qv [.r y0,.i y1,.i y2,.r y3]=(.br (ilt y2 y1) (.br (inb y2 (qf y0)) (let r0:TR:=(wk [(.i y2),(.i (cI y0 y2 0))])
 .br (okR r0) (.br (gB r0 0) (.br (ile ((qf y3)+(qf [[(.i y2)]])) 17592186044416) (.leaf (0,[(.r y0),(.i y1),(.i (qk .i64 y2 1)),(.r (q3F y3 [[(.i y2)]]))])) .fail) (.leaf (0,[(.r y0),(.i y1),(.i (qk .i64 y2 1)),(.r y3)]))) .fail) .fail) (.leaf (1,[(.r y3)]))):=by kernel_rfl
theorem q1m(x0:R):qh [.r x0]=(let r0:TR:=(qj qv [(.r x0),(.i (qf x0)),(.i 0),(.r [])])
 .br (okR r0) (.leaf (0,[(.r (gR r0 0))])) .fail):=by kernel_rfl
theorem qln(x0:R)(x1:R):vQ [.r x0,.r x1]=(let r0:TR:=(zZ [(.r x0),(.r x1)])
 .br (okR r0) (.br (ieq (gI r0 1) 0) (let r1:TR:=(qh [(.r (gR r0 0))])
 .br (okR r1) (.leaf (0,[(.b (ieq (qf (gR r1 0)) 0)),(.i (gI r0 1))])) .fail) (.leaf (0,[(.b false),(.i (gI r0 1))]))) .fail):=by kernel_rfl
theorem q48(y0:R)(y1:R)(y2:Int)(y3:Int):vo [.r y0,.r y1,.i y2,.i y3]=(.br (ilt y3 y2) (.br (inb y3 (qf y0)) (.br (inb y3 (qf y1)) (.br (ine (cI y0 y3 0) (cI y1 y3 0)) (.leaf (2,[(.b false)])) (.leaf (0,[(.r y0),(.r y1),(.i y2),(.i (qk .i64 y3 1))]))) .fail) .fail) (.leaf (1,[]))):=by kernel_rfl
theorem qcE(x0:R)(x1:R):qF [.r x0,.r x1]=(.br (ine (qf x0) (qf x1)) (.leaf (0,[(.b false)])) (let r0:TR:=(qj vo [(.r x0),(.r x1),(.i (qf x0)),(.i 0)])
 .br (okR r0) (.br (jIs r0 0) (.leaf (0,[(.b true)])) (.leaf (0,[(.b (gB r0 0))]))) .fail)):=by kernel_rfl
theorem qkC(x0:Int)(x1:Int)(x2:Int)(x3:Int)(x4:Int)(x5:Int)(x6:Bool)(x7:Int)(x8:Int)(x9:Int):q63 [.i x0,.i x1,.i x2,.i x3,.i x4,.i x5,.b x6,.i x7,.i x8,.i x9]=(.leaf (0,[(.i (qB .i64 x7 x0)),(.i (qB .i64 x8 x1))])):=by kernel_rfl
theorem qq6(x0:Int)(x1:Int)(x2:Int):uY [.i x0,.i x1,.i x2]=(.br (okR (uc [(.i x0)])) (.br (not (gB (uc [(.i x0)]) 0)) (.leaf (0,[(.i 2)])) (.br (okR (uc [(.i x1)])) (.br (not (gB (uc [(.i x1)]) 0)) (.leaf (0,[(.i 2)])) (.br (okR (jJ [(.i x2)])) (.br (not (gB (jJ [(.i x2)]) 0)) (.leaf (0,[(.i 2)])) (.leaf (0,[(.i 0)]))) .fail)) .fail)) .fail):=by kernel_rfl
theorem qpQ(x0:Int)(x1:Int)(x2:Int)(x3:Int)(x4:Int)(x5:Int)(x6:Bool)(x7:Int)(x8:Int)(x9:Int):q6J [.i x0,.i x1,.i x2,.i x3,.i x4,.i x5,.b x6,.i x7,.i x8,.i x9]=(let r0:TR:=(zY [(.i x0),(.i x1),(.i x2),(.i x3),(.i x4),(.i x5),(.b x6)])
 .br (okR r0) (.br (ine (gI r0 0) 0) (.leaf (0,[(.i (gI r0 0))])) (let r1:TR:=(uY [(.i x7),(.i x8),(.i x9)])
 .br (okR r1) (.leaf (0,[(.i (gI r1 0))])) .fail)) .fail):=by kernel_rfl
theorem qkm(x0:Int)(x1:Int)(x2:Int)(x3:Int)(x4:Int)(x5:Int)(x6:Bool)(x7:Int)(x8:Int)(x9:Int):vZ [.i x0,.i x1,.i x2,.i x3,.i x4,.i x5,.b x6,.i x7,.i x8,.i x9]=(let r0:TR:=(q6J [(.i x0),(.i x1),(.i x2),(.i x3),(.i x4),(.i x5),(.b x6),(.i x7),(.i x8),(.i x9)])
 .br (okR r0) (.br (ine (gI r0 0) 0) (.leaf (0,[(.i 0),(.i (gI r0 0))])) (let r1:TR:=(q63 [(.i x0),(.i x1),(.i x2),(.i x3),(.i x4),(.i x5),(.b x6),(.i x7),(.i x8),(.i x9)])
 .br (okR r1) (.leaf (0,[(.i (qk .i64 (jF .i64 (gI r1 0) (gI r1 0)) (jF .i64 (gI r1 1) (gI r1 1)))),(.i 0)])) .fail)) .fail):=by kernel_rfl
theorem qig(x0:Int)(x1:Int)(x2:Int)(x3:Int)(x4:Int)(x5:Int)(x6:Bool)(x7:Int)(x8:Int)(x9:Int):jo [.i x0,.i x1,.i x2,.i x3,.i x4,.i x5,.b x6,.i x7,.i x8,.i x9]=(.br (ile x2 x9) (.leaf (0,[(.b (ile x9 x3))])) (.leaf (0,[(.b false)]))):=by kernel_rfl
theorem q6Z(y0:Int)(y1:Int)(y2:R)(y3:R)(y4:R)(y5:R):yI [.i y0,.i y1,.r y2,.r y3,.r y4,.r y5]=(.br (ilt y1 y0) (.br (inb y1 (qf y2)) (.br (inb y1 (qf y4)) (let r0:TR:=(vZ [(.i (cI y2 y1 0)),(.i (cI y2 y1 1)),(.i (cI y2 y1 2)),(.i (cI y2 y1 3)),(.i (cI y2 y1 4)),(.i (cI y2 y1 5)),(.b (cB y2 y1 6)),(.i (cI y4 y1 0)),(.i (cI y4 y1 1)),(.i (cI y4 y1 2))])
 .br (okR r0) (.br (ine (gI r0 1) 0) (.leaf (2,[(.i (gI r0 1))])) (.br (inb y1 (qf y3)) (.br (inb y1 (qf y5)) (let r1:TR:=(vZ [(.i (cI y3 y1 0)),(.i (cI y3 y1 1)),(.i (cI y3 y1 2)),(.i (cI y3 y1 3)),(.i (cI y3 y1 4)),(.i (cI y3 y1 5)),(.b (cB y3 y1 6)),(.i (cI y5 y1 0)),(.i (cI y5 y1 1)),(.i (cI y5 y1 2))])
 .br (okR r1) (.br (ine (gI r1 1) 0) (.leaf (2,[(.i (gI r1 1))])) (.br (inb y1 (qf y2)) (.br (inb y1 (qf y4)) (let r2:TR:=(jo [(.i (cI y2 y1 0)),(.i (cI y2 y1 1)),(.i (cI y2 y1 2)),(.i (cI y2 y1 3)),(.i (cI y2 y1 4)),(.i (cI y2 y1 5)),(.b (cB y2 y1 6)),(.i (cI y4 y1 0)),(.i (cI y4 y1 1)),(.i (cI y4 y1 2))])
 .br (okR r2) (.br (not (gB r2 0)) (.leaf (2,[(.i 14)])) (.br (inb y1 (qf y3)) (.br (inb y1 (qf y5)) (let r3:TR:=(jo [(.i (cI y3 y1 0)),(.i (cI y3 y1 1)),(.i (cI y3 y1 2)),(.i (cI y3 y1 3)),(.i (cI y3 y1 4)),(.i (cI y3 y1 5)),(.b (cB y3 y1 6)),(.i (cI y5 y1 0)),(.i (cI y5 y1 1)),(.i (cI y5 y1 2))])
 .br (okR r3) (.br (not (gB r3 0)) (.leaf (2,[(.i 14)])) (.leaf (0,[(.i y0),(.i (qk .i64 y1 1)),(.r y2),(.r y3),(.r y4),(.r y5)]))) .fail) .fail) .fail)) .fail) .fail) .fail)) .fail) .fail) .fail)) .fail) .fail) .fail) (.leaf (1,[]))):=by kernel_rfl
theorem qii(x0:R)(x1:R)(x2:R)(x3:R):wt [.r x0,.r x1,.r x2,.r x3]=(let r0:TR:=(zM [(.r x0),(.r x1)])
 .br (okR r0) (.br (ine (gI r0 0) 0) (.leaf (0,[(.i (gI r0 0))])) (.br (ine (qf x2) (qf x0)) (.leaf (0,[(.i 8)])) (.br (ine (qf x3) (qf x1)) (.leaf (0,[(.i 8)])) (let r1:TR:=(qj yI [(.i (qf x0)),(.i 0),(.r x0),(.r x1),(.r x2),(.r x3)])
 .br (okR r1) (.br (jIs r1 0) (.leaf (0,[(.i 0)])) (.leaf (0,[(.i (gI r1 0))]))) .fail)))) .fail):=by kernel_rfl
theorem q8L(y0:R)(y1:Int)(y2:Int)(y3:R)(y4:R)(y5:R):jW [.r y0,.i y1,.i y2,.r y3,.r y4,.r y5]=(.br (ilt y2 y1) (.br (inb y2 (qf y0)) (.br (inb y2 (qf y3)) (.br (inb y2 (qf y4)) (.br (cB y0 y2 6) (.br (ile ((qf y5)+(qf [[(.i (qB .i64 0 (qB .i64 (cI y3 y2 2) (cI y4 y2 2))))]])) 17592186044416) (.leaf (0,[(.r y0),(.i y1),(.i (qk .i64 y2 1)),(.r y3),(.r y4),(.r (q3F y5 [[(.i (qB .i64 0 (qB .i64 (cI y3 y2 2) (cI y4 y2 2))))]]))])) .fail) (.br (ile ((qf y5)+(qf [[(.i (qB .i64 (cI y3 y2 2) (cI y4 y2 2)))]])) 17592186044416) (.leaf (0,[(.r y0),(.i y1),(.i (qk .i64 y2 1)),(.r y3),(.r y4),(.r (q3F y5 [[(.i (qB .i64 (cI y3 y2 2) (cI y4 y2 2)))]]))])) .fail)) .fail) .fail) .fail) (.leaf (1,[(.r y5)]))):=by kernel_rfl
theorem qk8(x0:R)(x1:R)(x2:R)(x3:R):zq [.r x0,.r x1,.r x2,.r x3]=(let r0:TR:=(qj jW [(.r x0),(.i (qf x0)),(.i 0),(.r x2),(.r x3),(.r [])])
 .br (okR r0) (.leaf (0,[(.r (gR r0 0))])) .fail):=by kernel_rfl
theorem qf9(x0:Int)(x1:Int)(x2:R)(x3:R):wz [.i x0,.i x1,.r x2,.r x3]=(.br (inb x0 (qf x2)) (.br (inb x0 (qf x3)) (.br (inb x0 (qf x2)) (.br (inb x0 (qf x3)) (.br (ilt x1 0) (.leaf (0,[(.b true),(.r x2),(.r x3)])) (.leaf (0,[(.b (ilt (jF .i64 x1 x1) (jF .i64 4 (qk .i64 (jF .i64 (qB .i64 (cI x2 x0 0) (cI x3 x0 0)) (qB .i64 (cI x2 x0 0) (cI x3 x0 0))) (jF .i64 (qB .i64 (cI x2 x0 1) (cI x3 x0 1)) (qB .i64 (cI x2 x0 1) (cI x3 x0 1))))))),(.r x2),(.r x3)]))) .fail) .fail) .fail) .fail):=by kernel_rfl
theorem ve(y0:R)(y1:Int)(y2:Int)(y3:R)(y4:R)(y5:R):qu [.r y0,.i y1,.i y2,.r y3,.r y4,.r y5]=(.br (ilt y2 y1) (.br (inb y2 (qf y0)) (let r0:TR:=(wz [(.i y2),(.i (cI y0 y2 0)),(.r y3),(.r y4)])
 .br (okR r0) (.br (gB r0 0) (.br (ile ((qf y5)+(qf [[(.i y2)]])) 17592186044416) (.leaf (0,[(.r y0),(.i y1),(.i (qk .i64 y2 1)),(.r (gR r0 1)),(.r (gR r0 2)),(.r (q3F y5 [[(.i y2)]]))])) .fail) (.leaf (0,[(.r y0),(.i y1),(.i (qk .i64 y2 1)),(.r (gR r0 1)),(.r (gR r0 2)),(.r y5)]))) .fail) .fail) (.leaf (1,[(.r y3),(.r y4),(.r y5)]))):=by kernel_rfl
theorem q1j(x0:R)(x1:R)(x2:R):qD [.r x0,.r x1,.r x2]=(let r0:TR:=(qj qu [(.r x0),(.i (qf x0)),(.i 0),(.r x1),(.r x2),(.r [])])
 .br (okR r0) (.leaf (0,[(.r (gR r0 2)),(.r (gR r0 0)),(.r (gR r0 1))])) .fail):=by kernel_rfl
theorem qhA(x0:R)(x1:R)(x2:R)(x3:R):zw [.r x0,.r x1,.r x2,.r x3]=(let r0:TR:=(wt [(.r x0),(.r x1),(.r x2),(.r x3)])
 .br (okR r0) (.br (ine (gI r0 0) 0) (.leaf (0,[(.r []),(.i (gI r0 0))])) (let r1:TR:=(zq [(.r x0),(.r x1),(.r x2),(.r x3)])
 .br (okR r1) (let r2:TR:=(qD [(.r (gR r1 0)),(.r x2),(.r x3)])
 .br (okR r2) (.leaf (0,[(.r (gR r2 0)),(.i 0)])) .fail) .fail)) .fail):=by kernel_rfl
theorem q53(x0:List UInt8)(x1:List UInt8):qE [.s x0,.s x1]=(.br (ile (wl x1) (wl x0)) (.br (qaF (wl x1) (wl x0)) (.br (qaF 0 (wl x1)) (.leaf (0,[(.b (seq (qjz x0 0 (wl x1)) x1))])) .fail) .fail) (.leaf (0,[(.b false)]))):=by kernel_rfl
theorem q4T(x0:List UInt8)(x1:List UInt8):zi [.s x0,.s x1]=(let r0:TR:=(qE [(.s x0),(.s x1)])
 .br (okR r0) (.br (gB r0 0) (.br (qaF (wl x0) (wl x0)) (.br (qaF (wl x1) (wl x0)) (.leaf (0,[(.s (qjz x0 (wl x1) (wl x0)))])) .fail) .fail) (.leaf (0,[(.s x0)]))) .fail):=by kernel_rfl
theorem qen(x0:List UInt8)(x1:List UInt8):qP [.s x0,.s x1]=(let r0:TR:=(zi [(.s x0),(.s x1)])
 .br (okR r0) (.leaf (0,[(.s (gS r0 0))])) .fail):=by kernel_rfl
theorem qow(x0:List UInt8):qM [.s x0]=(let r0:TR:=(qP [(.s x0),(.s [45])])
 .br (okR r0) (.br (seq (gS r0 0) []) (.leaf (0,[(.i 3)])) (let r1:TR:=(q6D [(.s (gS r0 0)),(.s [48,49,50,51,52,53,54,55,56,57])])
 .br (okR r1) (.br (not (seq (gS r1 0) [])) (.leaf (0,[(.i 3)])) (.br (inb 0 (wl (gS r0 0))) (.br (ieq (sat (gS r0 0) 0) 48) (.br (not (seq x0 [48])) (.leaf (0,[(.i 3)])) (.br (ilt 1024 (wl (gS r0 0))) (.leaf (0,[(.i 11)])) (.leaf (0,[(.i 0)])))) (.br (ilt 1024 (wl (gS r0 0))) (.leaf (0,[(.i 11)])) (.leaf (0,[(.i 0)])))) .fail)) .fail)) .fail):=by kernel_rfl
theorem q9B(x0:List UInt8)(x1:List UInt8):wy [.s x0,.s x1]=(let r0:TR:=(vB [(.s x0),(.s x1)])
 .br (okR r0) (.br (ile 0 (gI r0 0)) (.br (qaF (gI r0 0) (wl x0)) (.br (qaF 0 (gI r0 0)) (.br (qaF (wl x0) (wl x0)) (.br (qaF (qk .i64 (gI r0 0) (wl x1)) (wl x0)) (.leaf (0,[(.s (qjz x0 0 (gI r0 0))),(.s (qjz x0 (qk .i64 (gI r0 0) (wl x1)) (wl x0))),(.b true)])) .fail) .fail) .fail) .fail) (.leaf (0,[(.s x0),(.s []),(.b false)]))) .fail):=by kernel_rfl
theorem qox(x0:List UInt8)(x1:List UInt8):q5s [.s x0,.s x1]=(let r0:TR:=(wy [(.s x0),(.s x1)])
 .br (okR r0) (.leaf (0,[(.s (gS r0 0)),(.s (gS r0 1)),(.b (gB r0 2))])) .fail):=by kernel_rfl
theorem qsO(x0:List UInt8):qN [.s x0]=(let r0:TR:=(q5s [(.s x0),(.s [47])])
 .br (okR r0) (.br (not (gB r0 2)) (.leaf (0,[(.s (gS r0 0)),(.s [49]),(.b (gB r0 2))])) (.leaf (0,[(.s (gS r0 0)),(.s (gS r0 1)),(.b (gB r0 2))]))) .fail):=by kernel_rfl
theorem qgz(y0:R)(y1:Int)(y2:Int):q5e [.r y0,.i y1,.i y2]=(.br (ilt y2 y1) (.br (inb y2 (qf y0)) (let r0:TR:=(qM [(.s (cS y0 y2 0))])
 .br (okR r0) (.br (ine (gI r0 0) 0) (.leaf (2,[(.i (gI r0 0))])) (.leaf (0,[(.r y0),(.i y1),(.i (qk .i64 y2 1))]))) .fail) .fail) (.leaf (1,[]))):=by kernel_rfl
theorem qrx(x0:R):zX [.r x0]=(let r0:TR:=(qj q5e [(.r x0),(.i (qf x0)),(.i 0)])
 .br (okR r0) (.br (jIs r0 0) (.leaf (0,[(.i 0)])) (.leaf (0,[(.i (gI r0 0))]))) .fail):=by kernel_rfl
theorem qqp(x0:List UInt8):yZ [.s x0]=(.br (seq x0 [48]) (.leaf (0,[(.i 0)])) (.br (inb 0 (wl x0)) (.br (ieq (sat x0 0) 45) (.leaf (0,[(.i (-1))])) (.leaf (0,[(.i 1)]))) .fail)):=by kernel_rfl
theorem qoj(x0:List UInt8)(x1:List UInt8):q5p [.s x0,.s x1]=(.br (ine (wl x0) (wl x1)) (.br (ilt (wl x0) (wl x1)) (.leaf (0,[(.i (-1))])) (.leaf (0,[(.i 1)]))) (let r0:TR:=(q2G [(.s x0),(.s x1)])
 .br (okR r0) (.leaf (0,[(.i (gI r0 0))])) .fail)):=by kernel_rfl
theorem qlm(x0:List UInt8)(x1:List UInt8):q2v [.s x0,.s x1]=(let r0:TR:=(zX [(.r [[(.s x0)],[(.s x1)]])])
 .br (okR r0) (.br (ine (gI r0 0) 0) (.leaf (0,[(.i 0),(.i (gI r0 0))])) (let r1:TR:=(yZ [(.s x0)])
 .br (okR r1) (let r2:TR:=(yZ [(.s x1)])
 .br (okR r2) (.br (ilt (gI r1 0) (gI r2 0)) (.leaf (0,[(.i (-1)),(.i 0)])) (.br (okR r2) (.br (ilt (gI r2 0) (gI r1 0)) (.leaf (0,[(.i 1),(.i 0)])) (let r3:TR:=(qP [(.s x0),(.s [45])])
 .br (okR r3) (let r4:TR:=(qP [(.s x1),(.s [45])])
 .br (okR r4) (let r5:TR:=(q5p [(.s (gS r3 0)),(.s (gS r4 0))])
 .br (okR r5) (.leaf (0,[(.i (jF .i64 (gI r1 0) (gI r5 0))),(.i 0)])) .fail) .fail) .fail)) .fail)) .fail) .fail)) .fail):=by kernel_rfl
theorem qum(x0:Int):zt [.i x0]=(.br (okR (q47 [(.i x0)])) (.leaf (0,[(.s (gS (q47 [(.i x0)]) 0))])) .fail):=by kernel_rfl
theorem qd9(y0:Bool)(y1:Int)(y2:R):ji [.b y0,.i y1,.r y2]=(.br (ilt 0 y1) (.br (inb (qB .i64 y1 1) 232) (.br (inb (qB .i64 y1 1) 232) (.br (ieq (cI y2 (qB .i64 y1 1) 0) 0) (.leaf (0,[(.b y0),(.i (qB .i64 y1 1)),(.r y2)])) (.leaf (1,[(.b y0),(.i y1),(.r y2)]))) .fail) .fail) (.leaf (1,[(.b y0),(.i y1),(.r y2)]))):=by kernel_rfl
theorem qeQ(x0:Bool)(x1:Int)(x2:R):qy [.b x0,.i x1,.r x2]=(let r0:TR:=(qj ji [(.b x0),(.i x1),(.r x2)])
 .br (okR r0) (.leaf (0,[(.b (gB r0 0)),(.i (gI r0 1)),(.r (gR r0 2))])) .fail):=by kernel_rfl
theorem qnO(y0:List UInt8)(y1:Bool)(y2:Int)(y3:R):q3I [.s y0,.b y1,.i y2,.r y3]=(.br (ilt 0 (wl y0)) (.br (qaF (wl y0) (wl y0)) (.br (qaF (qiz 0 (qB .i64 (wl y0) 9)) (wl y0)) (let r0:TR:=(vF [(.s (qjz y0 (qiz 0 (qB .i64 (wl y0) 9)) (wl y0)))])
 .br (okR r0) (.br (inb y2 232) (.br (inb y2 232) (.br (qaF (qiz 0 (qB .i64 (wl y0) 9)) (wl y0)) (.br (qaF 0 (qiz 0 (qB .i64 (wl y0) 9))) (.leaf (0,[(.s (qjz y0 0 (qiz 0 (qB .i64 (wl y0) 9)))),(.b y1),(.i (qk .i64 y2 1)),(.r (qe7 y3 y2 0 [(.i (gI r0 0))]))])) .fail) .fail) .fail) .fail) .fail) .fail) .fail) (.leaf (1,[(.b y1),(.i y2),(.r y3)]))):=by kernel_rfl
theorem qqN(x0:List UInt8):zB [.s x0]=(.br (inb 0 (wl x0)) (let r0:TR:=(qP [(.s x0),(.s [45])])
 .br (okR r0) (let r1:TR:=(qj q3I [(.s (gS r0 0)),(.b (ieq (sat x0 0) 45)),(.i 0),(.r (q6p 232 [(.i 0)]))])
 .br (okR r1) (let r2:TR:=(qy [(.b (gB r1 0)),(.i (gI r1 1)),(.r (gR r1 2))])
 .br (okR r2) (.leaf (0,[(.b (gB r2 0)),(.i (gI r2 1)),(.r (gR r2 2))])) .fail) .fail) .fail) .fail):=by kernel_rfl
theorem q74(y0:Int)(y1:Int)(y2:Int)(y3:Int)(y4:Bool)(y5:Int)(y6:R)(y7:Bool)(y8:Int)(y9:R):vU [.i y0,.i y1,.i y2,.i y3,.b y4,.i y5,.r y6,.b y7,.i y8,.r y9]=(.br (ilt y3 y8) (.br (inb (qk .i64 y3 y1) 232) (.br (inb (qk .i64 y3 y1) 232) (.br (ilt y3 y8) (.br (inb y3 232) (.br (inb y3 232) (.br (ilt (qB .i64 (qk .i64 (qk .i64 (cI y6 (qk .i64 y3 y1) 0) y2) (jF .i64 y0 (cI y9 y3 0))) (jF .i64 (kn .i64 (qk .i64 (qk .i64 (cI y6 (qk .i64 y3 y1) 0) y2) (jF .i64 y0 (cI y9 y3 0))) 1000000000) 1000000000)) 0) (.br (inb (qk .i64 y3 y1) 232) (.br (inb (qk .i64 y3 y1) 232) (.leaf (0,[(.i y0),(.i y1),(.i (qB .i64 (kn .i64 (qk .i64 (qk .i64 (cI y6 (qk .i64 y3 y1) 0) y2) (jF .i64 y0 (cI y9 y3 0))) 1000000000) 1)),(.i (qk .i64 y3 1)),(.b y4),(.i (qiz y5 (qk .i64 (qk .i64 y3 y1) 1))),(.r (qe7 y6 (qk .i64 y3 y1) 0 [(.i (qk .i64 (qB .i64 (qk .i64 (qk .i64 (cI y6 (qk .i64 y3 y1) 0) y2) (jF .i64 y0 (cI y9 y3 0))) (jF .i64 (kn .i64 (qk .i64 (qk .i64 (cI y6 (qk .i64 y3 y1) 0) y2) (jF .i64 y0 (cI y9 y3 0))) 1000000000) 1000000000)) 1000000000))])),(.b y7),(.i y8),(.r y9)])) .fail) .fail) (.br (inb (qk .i64 y3 y1) 232) (.br (inb (qk .i64 y3 y1) 232) (.leaf (0,[(.i y0),(.i y1),(.i (kn .i64 (qk .i64 (qk .i64 (cI y6 (qk .i64 y3 y1) 0) y2) (jF .i64 y0 (cI y9 y3 0))) 1000000000)),(.i (qk .i64 y3 1)),(.b y4),(.i (qiz y5 (qk .i64 (qk .i64 y3 y1) 1))),(.r (qe7 y6 (qk .i64 y3 y1) 0 [(.i (qB .i64 (qk .i64 (qk .i64 (cI y6 (qk .i64 y3 y1) 0) y2) (jF .i64 y0 (cI y9 y3 0))) (jF .i64 (kn .i64 (qk .i64 (qk .i64 (cI y6 (qk .i64 y3 y1) 0) y2) (jF .i64 y0 (cI y9 y3 0))) 1000000000) 1000000000)))])),(.b y7),(.i y8),(.r y9)])) .fail) .fail)) .fail) .fail) (.br (ilt (qB .i64 (qk .i64 (cI y6 (qk .i64 y3 y1) 0) y2) (jF .i64 (kn .i64 (qk .i64 (cI y6 (qk .i64 y3 y1) 0) y2) 1000000000) 1000000000)) 0) (.br (inb (qk .i64 y3 y1) 232) (.br (inb (qk .i64 y3 y1) 232) (.leaf (0,[(.i y0),(.i y1),(.i (qB .i64 (kn .i64 (qk .i64 (cI y6 (qk .i64 y3 y1) 0) y2) 1000000000) 1)),(.i (qk .i64 y3 1)),(.b y4),(.i (qiz y5 (qk .i64 (qk .i64 y3 y1) 1))),(.r (qe7 y6 (qk .i64 y3 y1) 0 [(.i (qk .i64 (qB .i64 (qk .i64 (cI y6 (qk .i64 y3 y1) 0) y2) (jF .i64 (kn .i64 (qk .i64 (cI y6 (qk .i64 y3 y1) 0) y2) 1000000000) 1000000000)) 1000000000))])),(.b y7),(.i y8),(.r y9)])) .fail) .fail) (.br (inb (qk .i64 y3 y1) 232) (.br (inb (qk .i64 y3 y1) 232) (.leaf (0,[(.i y0),(.i y1),(.i (kn .i64 (qk .i64 (cI y6 (qk .i64 y3 y1) 0) y2) 1000000000)),(.i (qk .i64 y3 1)),(.b y4),(.i (qiz y5 (qk .i64 (qk .i64 y3 y1) 1))),(.r (qe7 y6 (qk .i64 y3 y1) 0 [(.i (qB .i64 (qk .i64 (cI y6 (qk .i64 y3 y1) 0) y2) (jF .i64 (kn .i64 (qk .i64 (cI y6 (qk .i64 y3 y1) 0) y2) 1000000000) 1000000000)))])),(.b y7),(.i y8),(.r y9)])) .fail) .fail))) .fail) .fail) (.br (ine y2 0) (.br (inb (qk .i64 y3 y1) 232) (.br (inb (qk .i64 y3 y1) 232) (.br (ilt y3 y8) (.br (inb y3 232) (.br (inb y3 232) (.br (ilt (qB .i64 (qk .i64 (qk .i64 (cI y6 (qk .i64 y3 y1) 0) y2) (jF .i64 y0 (cI y9 y3 0))) (jF .i64 (kn .i64 (qk .i64 (qk .i64 (cI y6 (qk .i64 y3 y1) 0) y2) (jF .i64 y0 (cI y9 y3 0))) 1000000000) 1000000000)) 0) (.br (inb (qk .i64 y3 y1) 232) (.br (inb (qk .i64 y3 y1) 232) (.leaf (0,[(.i y0),(.i y1),(.i (qB .i64 (kn .i64 (qk .i64 (qk .i64 (cI y6 (qk .i64 y3 y1) 0) y2) (jF .i64 y0 (cI y9 y3 0))) 1000000000) 1)),(.i (qk .i64 y3 1)),(.b y4),(.i (qiz y5 (qk .i64 (qk .i64 y3 y1) 1))),(.r (qe7 y6 (qk .i64 y3 y1) 0 [(.i (qk .i64 (qB .i64 (qk .i64 (qk .i64 (cI y6 (qk .i64 y3 y1) 0) y2) (jF .i64 y0 (cI y9 y3 0))) (jF .i64 (kn .i64 (qk .i64 (qk .i64 (cI y6 (qk .i64 y3 y1) 0) y2) (jF .i64 y0 (cI y9 y3 0))) 1000000000) 1000000000)) 1000000000))])),(.b y7),(.i y8),(.r y9)])) .fail) .fail) (.br (inb (qk .i64 y3 y1) 232) (.br (inb (qk .i64 y3 y1) 232) (.leaf (0,[(.i y0),(.i y1),(.i (kn .i64 (qk .i64 (qk .i64 (cI y6 (qk .i64 y3 y1) 0) y2) (jF .i64 y0 (cI y9 y3 0))) 1000000000)),(.i (qk .i64 y3 1)),(.b y4),(.i (qiz y5 (qk .i64 (qk .i64 y3 y1) 1))),(.r (qe7 y6 (qk .i64 y3 y1) 0 [(.i (qB .i64 (qk .i64 (qk .i64 (cI y6 (qk .i64 y3 y1) 0) y2) (jF .i64 y0 (cI y9 y3 0))) (jF .i64 (kn .i64 (qk .i64 (qk .i64 (cI y6 (qk .i64 y3 y1) 0) y2) (jF .i64 y0 (cI y9 y3 0))) 1000000000) 1000000000)))])),(.b y7),(.i y8),(.r y9)])) .fail) .fail)) .fail) .fail) (.br (ilt (qB .i64 (qk .i64 (cI y6 (qk .i64 y3 y1) 0) y2) (jF .i64 (kn .i64 (qk .i64 (cI y6 (qk .i64 y3 y1) 0) y2) 1000000000) 1000000000)) 0) (.br (inb (qk .i64 y3 y1) 232) (.br (inb (qk .i64 y3 y1) 232) (.leaf (0,[(.i y0),(.i y1),(.i (qB .i64 (kn .i64 (qk .i64 (cI y6 (qk .i64 y3 y1) 0) y2) 1000000000) 1)),(.i (qk .i64 y3 1)),(.b y4),(.i (qiz y5 (qk .i64 (qk .i64 y3 y1) 1))),(.r (qe7 y6 (qk .i64 y3 y1) 0 [(.i (qk .i64 (qB .i64 (qk .i64 (cI y6 (qk .i64 y3 y1) 0) y2) (jF .i64 (kn .i64 (qk .i64 (cI y6 (qk .i64 y3 y1) 0) y2) 1000000000) 1000000000)) 1000000000))])),(.b y7),(.i y8),(.r y9)])) .fail) .fail) (.br (inb (qk .i64 y3 y1) 232) (.br (inb (qk .i64 y3 y1) 232) (.leaf (0,[(.i y0),(.i y1),(.i (kn .i64 (qk .i64 (cI y6 (qk .i64 y3 y1) 0) y2) 1000000000)),(.i (qk .i64 y3 1)),(.b y4),(.i (qiz y5 (qk .i64 (qk .i64 y3 y1) 1))),(.r (qe7 y6 (qk .i64 y3 y1) 0 [(.i (qB .i64 (qk .i64 (cI y6 (qk .i64 y3 y1) 0) y2) (jF .i64 (kn .i64 (qk .i64 (cI y6 (qk .i64 y3 y1) 0) y2) 1000000000) 1000000000)))])),(.b y7),(.i y8),(.r y9)])) .fail) .fail))) .fail) .fail) (.leaf (1,[(.b y4),(.i y5),(.r y6),(.b y7),(.i y8),(.r y9)])))):=by kernel_rfl
theorem qhP(x0:Int)(x1:Int)(x2:Bool)(x3:Int)(x4:R)(x5:Bool)(x6:Int)(x7:R):qJ [.i x0,.i x1,.b x2,.i x3,.r x4,.b x5,.i x6,.r x7]=(let r0:TR:=(qj vU [(.i x0),(.i x1),(.i 0),(.i 0),(.b x2),(.i x3),(.r x4),(.b x5),(.i x6),(.r x7)])
 .br (okR r0) (let r1:TR:=(qy [(.b (gB r0 0)),(.i (gI r0 1)),(.r (gR r0 2))])
 .br (okR r1) (.leaf (0,[(.b (gB r1 0)),(.i (gI r1 1)),(.r (gR r1 2)),(.b (gB r0 3)),(.i (gI r0 4)),(.r (gR r0 5))])) .fail) .fail):=by kernel_rfl
theorem qe1(y0:Int)(y1:Bool)(y2:Int)(y3:R)(y4:Bool)(y5:Int)(y6:R):jN [.i y0,.b y1,.i y2,.r y3,.b y4,.i y5,.r y6]=(.br (ile 0 y0) (.br (inb y0 232) (.br (inb y0 232) (.br (inb y0 232) (.br (inb y0 232) (.br (ine (cI y3 y0 0) (cI y6 y0 0)) (.br (inb y0 232) (.br (inb y0 232) (.br (inb y0 232) (.br (inb y0 232) (.leaf (2,[(.i (qB .i64 (cI y3 y0 0) (cI y6 y0 0))),(.b y1),(.i y2),(.r y3),(.b y4),(.i y5),(.r y6)])) .fail) .fail) .fail) .fail) (.leaf (0,[(.i (qB .i64 y0 1)),(.b y1),(.i y2),(.r y3),(.b y4),(.i y5),(.r y6)]))) .fail) .fail) .fail) .fail) (.leaf (1,[(.b y1),(.i y2),(.r y3),(.b y4),(.i y5),(.r y6)]))):=by kernel_rfl
theorem qgj(x0:Bool)(x1:Int)(x2:R)(x3:Bool)(x4:Int)(x5:R):zE [.b x0,.i x1,.r x2,.b x3,.i x4,.r x5]=(.br (ine x1 x4) (.leaf (0,[(.i (qB .i64 x1 x4)),(.b x0),(.i x1),(.r x2),(.b x3),(.i x4),(.r x5)])) (let r0:TR:=(qj jN [(.i (qB .i64 x1 1)),(.b x0),(.i x1),(.r x2),(.b x3),(.i x4),(.r x5)])
 .br (okR r0) (.br (jIs r0 0) (.leaf (0,[(.i 0),(.b (gB r0 0)),(.i (gI r0 1)),(.r (gR r0 2)),(.b (gB r0 3)),(.i (gI r0 4)),(.r (gR r0 5))])) (.leaf (0,[(.i (gI r0 0)),(.b (gB r0 1)),(.i (gI r0 2)),(.r (gR r0 3)),(.b (gB r0 4)),(.i (gI r0 5)),(.r (gR r0 6))]))) .fail)):=by kernel_rfl
theorem qjU(x0:Bool)(x1:Int)(x2:R)(x3:Bool)(x4:Int)(x5:R):yt [.b x0,.i x1,.r x2,.b x3,.i x4,.r x5]=(.br (ilt x4 0) (.br (ilt (qB .i64 x4 1) 0) (.br (ilt (qB .i64 x4 1) 0) (.br (ilt 1 x4) (.leaf (0,[(.i 1),(.b x0),(.i x1),(.r x2),(.b x3),(.i x4),(.r x5)])) .fail) (.br (ile x4 (qB .i64 x4 1)) (.br (ilt 1 x4) (.leaf (0,[(.i 1),(.b x0),(.i x1),(.r x2),(.b x3),(.i x4),(.r x5)])) .fail) (.br (inb (qB .i64 x4 1) 232) (.br (inb (qB .i64 x4 1) 232) (.br (ilt 1 x4) (.br (ine (qk .i64 (cI x5 (qB .i64 x4 1) 0) 1) 0) (.br (ilt 0 (kn .i64 0 (qk .i64 (cI x5 (qB .i64 x4 1) 0) 1))) (.leaf (0,[(.i (q9c (kn .i64 0 (qk .i64 (cI x5 (qB .i64 x4 1) 0) 1)) 999999999)),(.b x0),(.i x1),(.r x2),(.b x3),(.i x4),(.r x5)])) (.leaf (0,[(.i 1),(.b x0),(.i x1),(.r x2),(.b x3),(.i x4),(.r x5)]))) .fail) (.br (ine (cI x5 (qB .i64 x4 1) 0) 0) (.br (ilt 0 (kn .i64 0 (cI x5 (qB .i64 x4 1) 0))) (.leaf (0,[(.i (q9c (kn .i64 0 (cI x5 (qB .i64 x4 1) 0)) 999999999)),(.b x0),(.i x1),(.r x2),(.b x3),(.i x4),(.r x5)])) (.leaf (0,[(.i 1),(.b x0),(.i x1),(.r x2),(.b x3),(.i x4),(.r x5)]))) .fail)) .fail) .fail))) (.br (ile x1 (qB .i64 x4 1)) (.br (ilt (qB .i64 x4 1) 0) (.br (ilt 1 x4) (.leaf (0,[(.i 1),(.b x0),(.i x1),(.r x2),(.b x3),(.i x4),(.r x5)])) .fail) (.br (ile x4 (qB .i64 x4 1)) (.br (ilt 1 x4) (.leaf (0,[(.i 1),(.b x0),(.i x1),(.r x2),(.b x3),(.i x4),(.r x5)])) .fail) (.br (inb (qB .i64 x4 1) 232) (.br (inb (qB .i64 x4 1) 232) (.br (ilt 1 x4) (.br (ine (qk .i64 (cI x5 (qB .i64 x4 1) 0) 1) 0) (.br (ilt 0 (kn .i64 0 (qk .i64 (cI x5 (qB .i64 x4 1) 0) 1))) (.leaf (0,[(.i (q9c (kn .i64 0 (qk .i64 (cI x5 (qB .i64 x4 1) 0) 1)) 999999999)),(.b x0),(.i x1),(.r x2),(.b x3),(.i x4),(.r x5)])) (.leaf (0,[(.i 1),(.b x0),(.i x1),(.r x2),(.b x3),(.i x4),(.r x5)]))) .fail) (.br (ine (cI x5 (qB .i64 x4 1) 0) 0) (.br (ilt 0 (kn .i64 0 (cI x5 (qB .i64 x4 1) 0))) (.leaf (0,[(.i (q9c (kn .i64 0 (cI x5 (qB .i64 x4 1) 0)) 999999999)),(.b x0),(.i x1),(.r x2),(.b x3),(.i x4),(.r x5)])) (.leaf (0,[(.i 1),(.b x0),(.i x1),(.r x2),(.b x3),(.i x4),(.r x5)]))) .fail)) .fail) .fail))) (.br (inb (qB .i64 x4 1) 232) (.br (inb (qB .i64 x4 1) 232) (.br (ilt (qB .i64 x4 1) 0) (.br (ilt 1 x4) (.br (ilt 0 (kn .i64 (qk .i64 0 (cI x2 (qB .i64 x4 1) 0)) 1)) (.leaf (0,[(.i (q9c (kn .i64 (qk .i64 0 (cI x2 (qB .i64 x4 1) 0)) 1) 999999999)),(.b x0),(.i x1),(.r x2),(.b x3),(.i x4),(.r x5)])) (.leaf (0,[(.i 1),(.b x0),(.i x1),(.r x2),(.b x3),(.i x4),(.r x5)]))) .fail) (.br (ile x4 (qB .i64 x4 1)) (.br (ilt 1 x4) (.br (ilt 0 (kn .i64 (qk .i64 0 (cI x2 (qB .i64 x4 1) 0)) 1)) (.leaf (0,[(.i (q9c (kn .i64 (qk .i64 0 (cI x2 (qB .i64 x4 1) 0)) 1) 999999999)),(.b x0),(.i x1),(.r x2),(.b x3),(.i x4),(.r x5)])) (.leaf (0,[(.i 1),(.b x0),(.i x1),(.r x2),(.b x3),(.i x4),(.r x5)]))) .fail) (.br (inb (qB .i64 x4 1) 232) (.br (inb (qB .i64 x4 1) 232) (.br (ilt 1 x4) (.br (ine (qk .i64 (cI x5 (qB .i64 x4 1) 0) 1) 0) (.br (ilt 0 (kn .i64 (qk .i64 0 (cI x2 (qB .i64 x4 1) 0)) (qk .i64 (cI x5 (qB .i64 x4 1) 0) 1))) (.leaf (0,[(.i (q9c (kn .i64 (qk .i64 0 (cI x2 (qB .i64 x4 1) 0)) (qk .i64 (cI x5 (qB .i64 x4 1) 0) 1)) 999999999)),(.b x0),(.i x1),(.r x2),(.b x3),(.i x4),(.r x5)])) (.leaf (0,[(.i 1),(.b x0),(.i x1),(.r x2),(.b x3),(.i x4),(.r x5)]))) .fail) (.br (ine (cI x5 (qB .i64 x4 1) 0) 0) (.br (ilt 0 (kn .i64 (qk .i64 0 (cI x2 (qB .i64 x4 1) 0)) (cI x5 (qB .i64 x4 1) 0))) (.leaf (0,[(.i (q9c (kn .i64 (qk .i64 0 (cI x2 (qB .i64 x4 1) 0)) (cI x5 (qB .i64 x4 1) 0)) 999999999)),(.b x0),(.i x1),(.r x2),(.b x3),(.i x4),(.r x5)])) (.leaf (0,[(.i 1),(.b x0),(.i x1),(.r x2),(.b x3),(.i x4),(.r x5)]))) .fail)) .fail) .fail))) .fail) .fail))) (.br (ile x1 x4) (.br (ilt (qB .i64 x4 1) 0) (.br (ilt (qB .i64 x4 1) 0) (.br (ilt 1 x4) (.leaf (0,[(.i 1),(.b x0),(.i x1),(.r x2),(.b x3),(.i x4),(.r x5)])) .fail) (.br (ile x4 (qB .i64 x4 1)) (.br (ilt 1 x4) (.leaf (0,[(.i 1),(.b x0),(.i x1),(.r x2),(.b x3),(.i x4),(.r x5)])) .fail) (.br (inb (qB .i64 x4 1) 232) (.br (inb (qB .i64 x4 1) 232) (.br (ilt 1 x4) (.br (ine (qk .i64 (cI x5 (qB .i64 x4 1) 0) 1) 0) (.br (ilt 0 (kn .i64 0 (qk .i64 (cI x5 (qB .i64 x4 1) 0) 1))) (.leaf (0,[(.i (q9c (kn .i64 0 (qk .i64 (cI x5 (qB .i64 x4 1) 0) 1)) 999999999)),(.b x0),(.i x1),(.r x2),(.b x3),(.i x4),(.r x5)])) (.leaf (0,[(.i 1),(.b x0),(.i x1),(.r x2),(.b x3),(.i x4),(.r x5)]))) .fail) (.br (ine (cI x5 (qB .i64 x4 1) 0) 0) (.br (ilt 0 (kn .i64 0 (cI x5 (qB .i64 x4 1) 0))) (.leaf (0,[(.i (q9c (kn .i64 0 (cI x5 (qB .i64 x4 1) 0)) 999999999)),(.b x0),(.i x1),(.r x2),(.b x3),(.i x4),(.r x5)])) (.leaf (0,[(.i 1),(.b x0),(.i x1),(.r x2),(.b x3),(.i x4),(.r x5)]))) .fail)) .fail) .fail))) (.br (ile x1 (qB .i64 x4 1)) (.br (ilt (qB .i64 x4 1) 0) (.br (ilt 1 x4) (.leaf (0,[(.i 1),(.b x0),(.i x1),(.r x2),(.b x3),(.i x4),(.r x5)])) .fail) (.br (ile x4 (qB .i64 x4 1)) (.br (ilt 1 x4) (.leaf (0,[(.i 1),(.b x0),(.i x1),(.r x2),(.b x3),(.i x4),(.r x5)])) .fail) (.br (inb (qB .i64 x4 1) 232) (.br (inb (qB .i64 x4 1) 232) (.br (ilt 1 x4) (.br (ine (qk .i64 (cI x5 (qB .i64 x4 1) 0) 1) 0) (.br (ilt 0 (kn .i64 0 (qk .i64 (cI x5 (qB .i64 x4 1) 0) 1))) (.leaf (0,[(.i (q9c (kn .i64 0 (qk .i64 (cI x5 (qB .i64 x4 1) 0) 1)) 999999999)),(.b x0),(.i x1),(.r x2),(.b x3),(.i x4),(.r x5)])) (.leaf (0,[(.i 1),(.b x0),(.i x1),(.r x2),(.b x3),(.i x4),(.r x5)]))) .fail) (.br (ine (cI x5 (qB .i64 x4 1) 0) 0) (.br (ilt 0 (kn .i64 0 (cI x5 (qB .i64 x4 1) 0))) (.leaf (0,[(.i (q9c (kn .i64 0 (cI x5 (qB .i64 x4 1) 0)) 999999999)),(.b x0),(.i x1),(.r x2),(.b x3),(.i x4),(.r x5)])) (.leaf (0,[(.i 1),(.b x0),(.i x1),(.r x2),(.b x3),(.i x4),(.r x5)]))) .fail)) .fail) .fail))) (.br (inb (qB .i64 x4 1) 232) (.br (inb (qB .i64 x4 1) 232) (.br (ilt (qB .i64 x4 1) 0) (.br (ilt 1 x4) (.br (ilt 0 (kn .i64 (qk .i64 0 (cI x2 (qB .i64 x4 1) 0)) 1)) (.leaf (0,[(.i (q9c (kn .i64 (qk .i64 0 (cI x2 (qB .i64 x4 1) 0)) 1) 999999999)),(.b x0),(.i x1),(.r x2),(.b x3),(.i x4),(.r x5)])) (.leaf (0,[(.i 1),(.b x0),(.i x1),(.r x2),(.b x3),(.i x4),(.r x5)]))) .fail) (.br (ile x4 (qB .i64 x4 1)) (.br (ilt 1 x4) (.br (ilt 0 (kn .i64 (qk .i64 0 (cI x2 (qB .i64 x4 1) 0)) 1)) (.leaf (0,[(.i (q9c (kn .i64 (qk .i64 0 (cI x2 (qB .i64 x4 1) 0)) 1) 999999999)),(.b x0),(.i x1),(.r x2),(.b x3),(.i x4),(.r x5)])) (.leaf (0,[(.i 1),(.b x0),(.i x1),(.r x2),(.b x3),(.i x4),(.r x5)]))) .fail) (.br (inb (qB .i64 x4 1) 232) (.br (inb (qB .i64 x4 1) 232) (.br (ilt 1 x4) (.br (ine (qk .i64 (cI x5 (qB .i64 x4 1) 0) 1) 0) (.br (ilt 0 (kn .i64 (qk .i64 0 (cI x2 (qB .i64 x4 1) 0)) (qk .i64 (cI x5 (qB .i64 x4 1) 0) 1))) (.leaf (0,[(.i (q9c (kn .i64 (qk .i64 0 (cI x2 (qB .i64 x4 1) 0)) (qk .i64 (cI x5 (qB .i64 x4 1) 0) 1)) 999999999)),(.b x0),(.i x1),(.r x2),(.b x3),(.i x4),(.r x5)])) (.leaf (0,[(.i 1),(.b x0),(.i x1),(.r x2),(.b x3),(.i x4),(.r x5)]))) .fail) (.br (ine (cI x5 (qB .i64 x4 1) 0) 0) (.br (ilt 0 (kn .i64 (qk .i64 0 (cI x2 (qB .i64 x4 1) 0)) (cI x5 (qB .i64 x4 1) 0))) (.leaf (0,[(.i (q9c (kn .i64 (qk .i64 0 (cI x2 (qB .i64 x4 1) 0)) (cI x5 (qB .i64 x4 1) 0)) 999999999)),(.b x0),(.i x1),(.r x2),(.b x3),(.i x4),(.r x5)])) (.leaf (0,[(.i 1),(.b x0),(.i x1),(.r x2),(.b x3),(.i x4),(.r x5)]))) .fail)) .fail) .fail))) .fail) .fail))) (.br (inb x4 232) (.br (inb x4 232) (.br (ilt (qB .i64 x4 1) 0) (.br (ilt (qB .i64 x4 1) 0) (.br (ilt 1 x4) (.br (ilt 0 (kn .i64 (qk .i64 (jF .i64 (cI x2 x4 0) 1000000000) 0) 1)) (.leaf (0,[(.i (q9c (kn .i64 (qk .i64 (jF .i64 (cI x2 x4 0) 1000000000) 0) 1) 999999999)),(.b x0),(.i x1),(.r x2),(.b x3),(.i x4),(.r x5)])) (.leaf (0,[(.i 1),(.b x0),(.i x1),(.r x2),(.b x3),(.i x4),(.r x5)]))) .fail) (.br (ile x4 (qB .i64 x4 1)) (.br (ilt 1 x4) (.br (ilt 0 (kn .i64 (qk .i64 (jF .i64 (cI x2 x4 0) 1000000000) 0) 1)) (.leaf (0,[(.i (q9c (kn .i64 (qk .i64 (jF .i64 (cI x2 x4 0) 1000000000) 0) 1) 999999999)),(.b x0),(.i x1),(.r x2),(.b x3),(.i x4),(.r x5)])) (.leaf (0,[(.i 1),(.b x0),(.i x1),(.r x2),(.b x3),(.i x4),(.r x5)]))) .fail) (.br (inb (qB .i64 x4 1) 232) (.br (inb (qB .i64 x4 1) 232) (.br (ilt 1 x4) (.br (ine (qk .i64 (cI x5 (qB .i64 x4 1) 0) 1) 0) (.br (ilt 0 (kn .i64 (qk .i64 (jF .i64 (cI x2 x4 0) 1000000000) 0) (qk .i64 (cI x5 (qB .i64 x4 1) 0) 1))) (.leaf (0,[(.i (q9c (kn .i64 (qk .i64 (jF .i64 (cI x2 x4 0) 1000000000) 0) (qk .i64 (cI x5 (qB .i64 x4 1) 0) 1)) 999999999)),(.b x0),(.i x1),(.r x2),(.b x3),(.i x4),(.r x5)])) (.leaf (0,[(.i 1),(.b x0),(.i x1),(.r x2),(.b x3),(.i x4),(.r x5)]))) .fail) (.br (ine (cI x5 (qB .i64 x4 1) 0) 0) (.br (ilt 0 (kn .i64 (qk .i64 (jF .i64 (cI x2 x4 0) 1000000000) 0) (cI x5 (qB .i64 x4 1) 0))) (.leaf (0,[(.i (q9c (kn .i64 (qk .i64 (jF .i64 (cI x2 x4 0) 1000000000) 0) (cI x5 (qB .i64 x4 1) 0)) 999999999)),(.b x0),(.i x1),(.r x2),(.b x3),(.i x4),(.r x5)])) (.leaf (0,[(.i 1),(.b x0),(.i x1),(.r x2),(.b x3),(.i x4),(.r x5)]))) .fail)) .fail) .fail))) (.br (ile x1 (qB .i64 x4 1)) (.br (ilt (qB .i64 x4 1) 0) (.br (ilt 1 x4) (.br (ilt 0 (kn .i64 (qk .i64 (jF .i64 (cI x2 x4 0) 1000000000) 0) 1)) (.leaf (0,[(.i (q9c (kn .i64 (qk .i64 (jF .i64 (cI x2 x4 0) 1000000000) 0) 1) 999999999)),(.b x0),(.i x1),(.r x2),(.b x3),(.i x4),(.r x5)])) (.leaf (0,[(.i 1),(.b x0),(.i x1),(.r x2),(.b x3),(.i x4),(.r x5)]))) .fail) (.br (ile x4 (qB .i64 x4 1)) (.br (ilt 1 x4) (.br (ilt 0 (kn .i64 (qk .i64 (jF .i64 (cI x2 x4 0) 1000000000) 0) 1)) (.leaf (0,[(.i (q9c (kn .i64 (qk .i64 (jF .i64 (cI x2 x4 0) 1000000000) 0) 1) 999999999)),(.b x0),(.i x1),(.r x2),(.b x3),(.i x4),(.r x5)])) (.leaf (0,[(.i 1),(.b x0),(.i x1),(.r x2),(.b x3),(.i x4),(.r x5)]))) .fail) (.br (inb (qB .i64 x4 1) 232) (.br (inb (qB .i64 x4 1) 232) (.br (ilt 1 x4) (.br (ine (qk .i64 (cI x5 (qB .i64 x4 1) 0) 1) 0) (.br (ilt 0 (kn .i64 (qk .i64 (jF .i64 (cI x2 x4 0) 1000000000) 0) (qk .i64 (cI x5 (qB .i64 x4 1) 0) 1))) (.leaf (0,[(.i (q9c (kn .i64 (qk .i64 (jF .i64 (cI x2 x4 0) 1000000000) 0) (qk .i64 (cI x5 (qB .i64 x4 1) 0) 1)) 999999999)),(.b x0),(.i x1),(.r x2),(.b x3),(.i x4),(.r x5)])) (.leaf (0,[(.i 1),(.b x0),(.i x1),(.r x2),(.b x3),(.i x4),(.r x5)]))) .fail) (.br (ine (cI x5 (qB .i64 x4 1) 0) 0) (.br (ilt 0 (kn .i64 (qk .i64 (jF .i64 (cI x2 x4 0) 1000000000) 0) (cI x5 (qB .i64 x4 1) 0))) (.leaf (0,[(.i (q9c (kn .i64 (qk .i64 (jF .i64 (cI x2 x4 0) 1000000000) 0) (cI x5 (qB .i64 x4 1) 0)) 999999999)),(.b x0),(.i x1),(.r x2),(.b x3),(.i x4),(.r x5)])) (.leaf (0,[(.i 1),(.b x0),(.i x1),(.r x2),(.b x3),(.i x4),(.r x5)]))) .fail)) .fail) .fail))) (.br (inb (qB .i64 x4 1) 232) (.br (inb (qB .i64 x4 1) 232) (.br (ilt (qB .i64 x4 1) 0) (.br (ilt 1 x4) (.br (ilt 0 (kn .i64 (qk .i64 (jF .i64 (cI x2 x4 0) 1000000000) (cI x2 (qB .i64 x4 1) 0)) 1)) (.leaf (0,[(.i (q9c (kn .i64 (qk .i64 (jF .i64 (cI x2 x4 0) 1000000000) (cI x2 (qB .i64 x4 1) 0)) 1) 999999999)),(.b x0),(.i x1),(.r x2),(.b x3),(.i x4),(.r x5)])) (.leaf (0,[(.i 1),(.b x0),(.i x1),(.r x2),(.b x3),(.i x4),(.r x5)]))) .fail) (.br (ile x4 (qB .i64 x4 1)) (.br (ilt 1 x4) (.br (ilt 0 (kn .i64 (qk .i64 (jF .i64 (cI x2 x4 0) 1000000000) (cI x2 (qB .i64 x4 1) 0)) 1)) (.leaf (0,[(.i (q9c (kn .i64 (qk .i64 (jF .i64 (cI x2 x4 0) 1000000000) (cI x2 (qB .i64 x4 1) 0)) 1) 999999999)),(.b x0),(.i x1),(.r x2),(.b x3),(.i x4),(.r x5)])) (.leaf (0,[(.i 1),(.b x0),(.i x1),(.r x2),(.b x3),(.i x4),(.r x5)]))) .fail) (.br (inb (qB .i64 x4 1) 232) (.br (inb (qB .i64 x4 1) 232) (.br (ilt 1 x4) (.br (ine (qk .i64 (cI x5 (qB .i64 x4 1) 0) 1) 0) (.br (ilt 0 (kn .i64 (qk .i64 (jF .i64 (cI x2 x4 0) 1000000000) (cI x2 (qB .i64 x4 1) 0)) (qk .i64 (cI x5 (qB .i64 x4 1) 0) 1))) (.leaf (0,[(.i (q9c (kn .i64 (qk .i64 (jF .i64 (cI x2 x4 0) 1000000000) (cI x2 (qB .i64 x4 1) 0)) (qk .i64 (cI x5 (qB .i64 x4 1) 0) 1)) 999999999)),(.b x0),(.i x1),(.r x2),(.b x3),(.i x4),(.r x5)])) (.leaf (0,[(.i 1),(.b x0),(.i x1),(.r x2),(.b x3),(.i x4),(.r x5)]))) .fail) (.br (ine (cI x5 (qB .i64 x4 1) 0) 0) (.br (ilt 0 (kn .i64 (qk .i64 (jF .i64 (cI x2 x4 0) 1000000000) (cI x2 (qB .i64 x4 1) 0)) (cI x5 (qB .i64 x4 1) 0))) (.leaf (0,[(.i (q9c (kn .i64 (qk .i64 (jF .i64 (cI x2 x4 0) 1000000000) (cI x2 (qB .i64 x4 1) 0)) (cI x5 (qB .i64 x4 1) 0)) 999999999)),(.b x0),(.i x1),(.r x2),(.b x3),(.i x4),(.r x5)])) (.leaf (0,[(.i 1),(.b x0),(.i x1),(.r x2),(.b x3),(.i x4),(.r x5)]))) .fail)) .fail) .fail))) .fail) .fail))) .fail) .fail))):=by kernel_rfl
theorem qht(y0:Int)(y1:Int)(y2:Bool)(y3:Int)(y4:R)(y5:Bool)(y6:Int)(y7:R)(y8:Bool)(y9:Int)(y10:R)(y11:Bool)(y12:Int)(y13:R):yb [.i y0,.i y1,.b y2,.i y3,.r y4,.b y5,.i y6,.r y7,.b y8,.i y9,.r y10,.b y11,.i y12,.r y13]=(let r0:TR:=(zE [(.b y11),(.i y12),(.r y13),(.b y5),(.i y6),(.r y7)])
 .br (okR r0) (.br (ile 0 (gI r0 0)) (let r1:TR:=(yt [(.b (gB r0 1)),(.i (gI r0 2)),(.r (gR r0 3)),(.b (gB r0 4)),(.i (gI r0 5)),(.r (gR r0 6))])
 .br (okR r1) (let r2:TR:=(qJ [(.i (qB .i64 0 (gI r1 0))),(.i 0),(.b (gB r1 1)),(.i (gI r1 2)),(.r (gR r1 3)),(.b (gB r1 4)),(.i (gI r1 5)),(.r (gR r1 6))])
 .br (okR r2) (.leaf (0,[(.i y0),(.i (qk .i64 y1 (gI r1 0))),(.b y2),(.i y3),(.r y4),(.b (gB r2 3)),(.i (gI r2 4)),(.r (gR r2 5)),(.b y8),(.i y9),(.r y10),(.b (gB r2 0)),(.i (gI r2 1)),(.r (gR r2 2))])) .fail) .fail) (.leaf (1,[(.i y0),(.i y1),(.b y2),(.i y3),(.r y4),(.b (gB r0 4)),(.i (gI r0 5)),(.r (gR r0 6)),(.b y8),(.i y9),(.r y10),(.b (gB r0 1)),(.i (gI r0 2)),(.r (gR r0 3))]))) .fail):=by kernel_rfl
theorem qiD(y0:Int)(y1:Bool)(y2:Int)(y3:R)(y4:Bool)(y5:Int)(y6:R)(y7:Bool)(y8:Int)(y9:R)(y10:Bool)(y11:Int)(y12:R):q0a [.i y0,.b y1,.i y2,.r y3,.b y4,.i y5,.r y6,.b y7,.i y8,.r y9,.b y10,.i y11,.r y12]=(.br (ile 0 y0) (.br (qaF 232 232) (.br (qaF 1 232) (.br (qaF y11 232) (.br (qaF 0 y11) (.br (inb y0 232) (.br (inb y0 232) (let r0:TR:=(qy [(.b y10),(.i (qk .i64 y11 1)),(.r (qe7 (qi2 y12 1 y12 0 (q9c (qwL y11 0) (qwL 232 1))) 0 0 [(.i (cI y3 y0 0))]))])
 .br (okR r0) (let r1:TR:=(qj yb [(.i y0),(.i 0),(.b y1),(.i y2),(.r y3),(.b y4),(.i y5),(.r y6),(.b y7),(.i y8),(.r y9),(.b (gB r0 0)),(.i (gI r0 1)),(.r (gR r0 2))])
 .br (okR r1) (.br (inb (gI r1 0) 232) (.br (inb (gI r1 0) 232) (.leaf (0,[(.i (qB .i64 (gI r1 0) 1)),(.b (gB r1 2)),(.i (gI r1 3)),(.r (gR r1 4)),(.b (gB r1 5)),(.i (gI r1 6)),(.r (gR r1 7)),(.b (gB r1 8)),(.i (qiz (gI r1 9) (qk .i64 (gI r1 0) 1))),(.r (qe7 (gR r1 10) (gI r1 0) 0 [(.i (gI r1 1))])),(.b (gB r1 11)),(.i (gI r1 12)),(.r (gR r1 13))])) .fail) .fail) .fail) .fail) .fail) .fail) .fail) .fail) .fail) .fail) (.leaf (1,[(.b y1),(.i y2),(.r y3),(.b y4),(.i y5),(.r y6),(.b y7),(.i y8),(.r y9),(.b y10),(.i y11),(.r y12)]))):=by kernel_rfl
theorem qlj(x0:Bool)(x1:Int)(x2:R)(x3:Bool)(x4:Int)(x5:R):wL [.b x0,.i x1,.r x2,.b x3,.i x4,.r x5]=(let r0:TR:=(qj q0a [(.i (qB .i64 x1 1)),(.b x0),(.i x1),(.r x2),(.b x3),(.i x4),(.r x5),(.b false),(.i 0),(.r (q6p 232 [(.i 0)])),(.b false),(.i 0),(.r (q6p 232 [(.i 0)]))])
 .br (okR r0) (let r1:TR:=(qy [(.b (gB r0 6)),(.i (gI r0 7)),(.r (gR r0 8))])
 .br (okR r1) (.leaf (0,[(.b (gB r0 0)),(.i (gI r0 1)),(.r (gR r0 2)),(.b (gB r0 3)),(.i (gI r0 4)),(.r (gR r0 5)),(.b (gB r1 0)),(.i (gI r1 1)),(.r (gR r1 2)),(.b (gB r0 9)),(.i (gI r0 10)),(.r (gR r0 11))])) .fail) .fail):=by kernel_rfl
theorem qme(y0:Int)(y1:Int):q1H [.i y0,.i y1]=(.br (ine y1 0) (.br (ine y1 0) (.leaf (0,[(.i y1),(.i (qou y0 y1))])) .fail) (.leaf (1,[(.i y0)]))):=by kernel_rfl
theorem qoz(y0:Bool)(y1:Int)(y2:R)(y3:Bool)(y4:Int)(y5:R):q4Y [.b y0,.i y1,.r y2,.b y3,.i y4,.r y5]=(.br (ilt 0 y4) (.br (ile y1 1) (.br (ile y4 1) (let r0:TR:=(qj q1H [(.i (cI y2 0 0)),(.i (cI y5 0 0))])
 .br (okR r0) (let r1:TR:=(zt [(.i (gI r0 0))])
 .br (okR r1) (.leaf (2,[(.s (gS r1 0)),(.i 0)])) .fail) .fail) (let r0:TR:=(wL [(.b y0),(.i y1),(.r y2),(.b y3),(.i y4),(.r y5)])
 .br (okR r0) (.leaf (0,[(.b (gB r0 3)),(.i (gI r0 4)),(.r (gR r0 5)),(.b (gB r0 9)),(.i (gI r0 10)),(.r (gR r0 11))])) .fail)) (let r0:TR:=(wL [(.b y0),(.i y1),(.r y2),(.b y3),(.i y4),(.r y5)])
 .br (okR r0) (.leaf (0,[(.b (gB r0 3)),(.i (gI r0 4)),(.r (gR r0 5)),(.b (gB r0 9)),(.i (gI r0 10)),(.r (gR r0 11))])) .fail)) (.leaf (1,[(.b y0),(.i y1),(.r y2)]))):=by kernel_rfl
theorem qrR(x0:List UInt8)(x1:List UInt8):q2h [.s x0,.s x1]=(let r0:TR:=(zX [(.r [[(.s x0)],[(.s x1)]])])
 .br (okR r0) (.br (ine (gI r0 0) 0) (.leaf (0,[(.s []),(.i (gI r0 0))])) (let r1:TR:=(zB [(.s x0)])
 .br (okR r1) (let r2:TR:=(zB [(.s x1)])
 .br (okR r2) (let r3:TR:=(qj q4Y [(.b (gB r1 0)),(.i (gI r1 1)),(.r (gR r1 2)),(.b (gB r2 0)),(.i (gI r2 1)),(.r (gR r2 2))])
 .br (okR r3) (.br (jIs r3 0) (let r4:TR:=(qK [(.b false),(.i (gI r3 1)),(.r (gR r3 2))])
 .br (okR r4) (.leaf (0,[(.s (gS r4 0)),(.i 0)])) .fail) (.leaf (0,[(.s (gS r3 0)),(.i (gI r3 1))]))) .fail) .fail) .fail)) .fail):=by kernel_rfl
theorem qor(x0:List UInt8):vO [.s x0]=(let r0:TR:=(qN [(.s x0)])
 .br (okR r0) (let r1:TR:=(qM [(.s (gS r0 0))])
 .br (okR r1) (let r2:TR:=(qM [(.s (gS r0 1))])
 .br (okR r2) (.br (ieq (gI r1 0) 3) (.leaf (0,[(.i 3)])) (.br (ieq (gI r2 0) 3) (.leaf (0,[(.i 3)])) (.br (ine (gI r1 0) 0) (.leaf (0,[(.i (qiz (gI r1 0) (gI r2 0)))])) (.br (ine (gI r2 0) 0) (.leaf (0,[(.i (qiz (gI r1 0) (gI r2 0)))])) (.br (not (gB r0 2)) (.leaf (0,[(.i 0)])) (let r3:TR:=(q2v [(.s (gS r0 1)),(.s [49])])
 .br (okR r3) (let r4:TR:=(q2h [(.s (gS r0 0)),(.s (gS r0 1))])
 .br (okR r4) (.br (ine (gI r3 1) 0) (.leaf (0,[(.i 3)])) (.br (ine (gI r4 1) 0) (.leaf (0,[(.i 3)])) (.br (ile (gI r3 0) 0) (.leaf (0,[(.i 3)])) (.br (not (seq (gS r4 0) [49])) (.leaf (0,[(.i 3)])) (.leaf (0,[(.i 0)])))))) .fail) .fail)))))) .fail) .fail) .fail):=by kernel_rfl
theorem q4b(y0:Int)(y1:Int)(y2:List UInt8)(y3:List UInt8)(y4:List UInt8)(y5:R):q2i [.i y0,.i y1,.s y2,.s y3,.s y4,.r y5]=(.br (ilt y1 y0) (.br (inb y1 (qf y5)) (let r0:TR:=(vO [(.s (cS y5 y1 0))])
 .br (okR r0) (.br (ine (gI r0 0) 0) (.leaf (2,[(.i (gI r0 0))])) (.leaf (0,[(.i y0),(.i (qk .i64 y1 1)),(.s y2),(.s y3),(.s y4),(.r y5)]))) .fail) .fail) (.leaf (1,[(.s y2),(.s y3),(.s y4)]))):=by kernel_rfl
theorem qnX(x0:List UInt8)(x1:List UInt8)(x2:List UInt8):q3c [.s x0,.s x1,.s x2]=(let r0:TR:=(qj q2i [(.i (qf [[(.s x0)],[(.s x1)],[(.s x2)]])),(.i 0),(.s x0),(.s x1),(.s x2),(.r [[(.s x0)],[(.s x1)],[(.s x2)]])])
 .br (okR r0) (.br (jIs r0 0) (.br (inb 0 (wl (gS r0 2))) (.br (ieq (sat (gS r0 2) 0) 45) (.leaf (0,[(.i 2)])) (.leaf (0,[(.i 0)]))) .fail) (.leaf (0,[(.i (gI r0 0))]))) .fail):=by kernel_rfl
theorem qem(y0:R)(y1:R)(y2:Int)(y3:Int):q3O [.r y0,.r y1,.i y2,.i y3]=(.br (ilt y3 y2) (.br (inb y3 (qf y1)) (let r0:TR:=(q3c [(.s (cS y1 y3 0)),(.s (cS y1 y3 1)),(.s (cS y1 y3 2))])
 .br (okR r0) (.br (ine (gI r0 0) 0) (.leaf (2,[(.i (gI r0 0))])) (.leaf (0,[(.r y0),(.r y1),(.i y2),(.i (qk .i64 y3 1))]))) .fail) .fail) (.leaf (1,[(.r y0)]))):=by kernel_rfl
theorem qq3(x0:R):wg [.r x0]=(.br (ilt 64 (qf x0)) (.leaf (0,[(.i 5)])) (let r0:TR:=(qj q3O [(.r x0),(.r x0),(.i (qf x0)),(.i 0)])
 .br (okR r0) (.br (jIs r0 0) (.br (ieq (qf (gR r0 0)) 0) (.leaf (0,[(.i 13)])) (.leaf (0,[(.i 0)]))) (.leaf (0,[(.i (gI r0 0))]))) .fail)):=by kernel_rfl
theorem qo3(x0:List UInt8)(x1:List UInt8):yO [.s x0,.s x1]=(.br (ilt 9 (wl x0)) (.leaf (0,[(.i 0),(.i 0),(.b false)])) (.br (ilt 9 (wl x1)) (.leaf (0,[(.i 0),(.i 0),(.b false)])) (.br (okR (vF [(.s x0)])) (.br (okR (vF [(.s x1)])) (.leaf (0,[(.i (gI (vF [(.s x0)]) 0)),(.i (gI (vF [(.s x1)]) 0)),(.b true)])) .fail) .fail))):=by kernel_rfl
theorem qna(x0:Int):kO [.i x0]=(.br (okR (zt [(.i x0)])) (.leaf (0,[(.s (gS (zt [(.i x0)]) 0)),(.i 0)])) .fail):=by kernel_rfl
theorem qeK(y0:Int)(y1:Int)(y2:Bool)(y3:Int)(y4:R)(y5:Bool)(y6:Int)(y7:R)(y8:Bool)(y9:Int)(y10:R):yF [.i y0,.i y1,.b y2,.i y3,.r y4,.b y5,.i y6,.r y7,.b y8,.i y9,.r y10]=(.br (ilt y1 y0) (.br (inb y1 232) (.br (inb y1 232) (let r0:TR:=(qJ [(.i (cI y7 y1 0)),(.i y1),(.b y8),(.i y9),(.r y10),(.b y2),(.i y3),(.r y4)])
 .br (okR r0) (.leaf (0,[(.i y0),(.i (qk .i64 y1 1)),(.b (gB r0 3)),(.i (gI r0 4)),(.r (gR r0 5)),(.b y5),(.i y6),(.r y7),(.b (gB r0 0)),(.i (gI r0 1)),(.r (gR r0 2))])) .fail) .fail) .fail) (.leaf (1,[(.b y2),(.i y3),(.r y4),(.b y5),(.i y6),(.r y7),(.b y8),(.i y9),(.r y10)]))):=by kernel_rfl
theorem qhp(x0:Bool)(x1:Int)(x2:R)(x3:Bool)(x4:Int)(x5:R):uV [.b x0,.i x1,.r x2,.b x3,.i x4,.r x5]=(let r0:TR:=(qj yF [(.i x4),(.i 0),(.b x0),(.i x1),(.r x2),(.b x3),(.i x4),(.r x5),(.b (not (beq x0 x3))),(.i 0),(.r (q6p 232 [(.i 0)]))])
 .br (okR r0) (.leaf (0,[(.b (gB r0 0)),(.i (gI r0 1)),(.r (gR r0 2)),(.b (gB r0 3)),(.i (gI r0 4)),(.r (gR r0 5)),(.b (gB r0 6)),(.i (gI r0 7)),(.r (gR r0 8))])) .fail):=by kernel_rfl
theorem qfk(x0:Bool)(x1:Int)(x2:R):zS [.b x0,.i x1,.r x2]=(let r0:TR:=(qK [(.b x0),(.i x1),(.r x2)])
 .br (okR r0) (let r1:TR:=(qM [(.s (gS r0 0))])
 .br (okR r1) (.br (ine (gI r1 0) 0) (.leaf (0,[(.s []),(.i (gI r1 0)),(.b (gB r0 1)),(.i (gI r0 2)),(.r (gR r0 3))])) (.leaf (0,[(.s (gS r0 0)),(.i 0),(.b (gB r0 1)),(.i (gI r0 2)),(.r (gR r0 3))]))) .fail) .fail):=by kernel_rfl
theorem qrv(x0:List UInt8)(x1:List UInt8):q4w [.s x0,.s x1]=(let r0:TR:=(zX [(.r [[(.s x0)],[(.s x1)]])])
 .br (okR r0) (.br (ine (gI r0 0) 0) (.leaf (0,[(.s []),(.i (gI r0 0))])) (let r1:TR:=(yO [(.s x0),(.s x1)])
 .br (okR r1) (.br (gB r1 2) (let r2:TR:=(kO [(.i (jF .i64 (gI r1 0) (gI r1 1)))])
 .br (okR r2) (.leaf (0,[(.s (gS r2 0)),(.i (gI r2 1))])) .fail) (let r2:TR:=(zB [(.s x0)])
 .br (okR r2) (let r3:TR:=(zB [(.s x1)])
 .br (okR r3) (let r4:TR:=(uV [(.b (gB r2 0)),(.i (gI r2 1)),(.r (gR r2 2)),(.b (gB r3 0)),(.i (gI r3 1)),(.r (gR r3 2))])
 .br (okR r4) (let r5:TR:=(zS [(.b (gB r4 6)),(.i (gI r4 7)),(.r (gR r4 8))])
 .br (okR r5) (.leaf (0,[(.s (gS r5 0)),(.i (gI r5 1))])) .fail) .fail) .fail) .fail)) .fail)) .fail):=by kernel_rfl
theorem q9N(x0:List UInt8)(x1:List UInt8)(x2:Int):zR [.s x0,.s x1,.i x2]=(.br (ine x2 0) (.leaf (0,[(.s [48]),(.i x2)])) (let r0:TR:=(q4w [(.s x0),(.s x1)])
 .br (okR r0) (.br (ine (gI r0 1) 0) (.leaf (0,[(.s [48]),(.i (gI r0 1))])) (.leaf (0,[(.s (gS r0 0)),(.i (gI r0 1))]))) .fail)):=by kernel_rfl
theorem q8Q(y0:List UInt8)(y1:R)(y2:Int)(y3:Int)(y4:Int):jZ [.s y0,.r y1,.i y2,.i y3,.i y4]=(.br (ilt y3 y2) (.br (inb y3 (qf y1)) (let r0:TR:=(zR [(.s y0),(.s (cS y1 y3 0)),(.i y4)])
 .br (okR r0) (.leaf (0,[(.s (gS r0 0)),(.r y1),(.i y2),(.i (qk .i64 y3 1)),(.i (gI r0 1))])) .fail) .fail) (.leaf (1,[(.s y0),(.i y4)]))):=by kernel_rfl
theorem qk2(x0:R)(x1:Int):qg [.r x0,.i x1]=(let r0:TR:=(qj jZ [(.s [49]),(.r x0),(.i (qf x0)),(.i 0),(.i x1)])
 .br (okR r0) (.leaf (0,[(.s (gS r0 0)),(.i (gI r0 1))])) .fail):=by kernel_rfl
theorem qja(x0:Bool)(x1:Int)(x2:R)(x3:Bool)(x4:Int)(x5:R):ww [.b x0,.i x1,.r x2,.b x3,.i x4,.r x5]=(.br (beq x0 x3) (let r0:TR:=(qJ [(.i 1),(.i 0),(.b x0),(.i x1),(.r x2),(.b x3),(.i x4),(.r x5)])
 .br (okR r0) (.leaf (0,[(.b (gB r0 0)),(.i (gI r0 1)),(.r (gR r0 2)),(.b (gB r0 3)),(.i (gI r0 4)),(.r (gR r0 5))])) .fail) (let r0:TR:=(zE [(.b x0),(.i x1),(.r x2),(.b x3),(.i x4),(.r x5)])
 .br (okR r0) (.br (ile 0 (gI r0 0)) (let r1:TR:=(qJ [(.i (-1)),(.i 0),(.b (gB r0 1)),(.i (gI r0 2)),(.r (gR r0 3)),(.b (gB r0 4)),(.i (gI r0 5)),(.r (gR r0 6))])
 .br (okR r1) (.leaf (0,[(.b (gB r1 0)),(.i (gI r1 1)),(.r (gR r1 2)),(.b (gB r1 3)),(.i (gI r1 4)),(.r (gR r1 5))])) .fail) (let r1:TR:=(qJ [(.i (-1)),(.i 0),(.b (gB r0 4)),(.i (gI r0 5)),(.r (gR r0 6)),(.b (gB r0 1)),(.i (gI r0 2)),(.r (gR r0 3))])
 .br (okR r1) (.leaf (0,[(.b (gB r1 0)),(.i (gI r1 1)),(.r (gR r1 2)),(.b (gB r0 4)),(.i (gI r0 5)),(.r (gR r0 6))])) .fail)) .fail)):=by kernel_rfl
theorem qb8(y0:R)(y1:Int)(y2:Int)(y3:Bool)(y4:Int)(y5:R):q5z [.r y0,.i y1,.i y2,.b y3,.i y4,.r y5]=(.br (ilt y2 y1) (.br (inb y2 (qf y0)) (let r0:TR:=(zB [(.s (cS y0 y2 0))])
 .br (okR r0) (let r1:TR:=(ww [(.b y3),(.i y4),(.r y5),(.b (gB r0 0)),(.i (gI r0 1)),(.r (gR r0 2))])
 .br (okR r1) (.leaf (0,[(.r y0),(.i y1),(.i (qk .i64 y2 1)),(.b (gB r1 0)),(.i (gI r1 1)),(.r (gR r1 2))])) .fail) .fail) .fail) (.leaf (1,[(.b y3),(.i y4),(.r y5)]))):=by kernel_rfl
theorem qrI(x0:R):q96 [.r x0]=(let r0:TR:=(qj q5z [(.r x0),(.i (qf x0)),(.i 0),(.b false),(.i 0),(.r (q6p 232 [(.i 0)]))])
 .br (okR r0) (let r1:TR:=(zS [(.b (gB r0 0)),(.i (gI r0 1)),(.r (gR r0 2))])
 .br (okR r1) (.leaf (0,[(.s (gS r1 0)),(.i (gI r1 1))])) .fail) .fail):=by kernel_rfl
theorem qsL(x0:List UInt8)(x1:List UInt8):q2n [.s x0,.s x1]=(let r0:TR:=(zX [(.r [[(.s x0)],[(.s x1)]])])
 .br (okR r0) (.br (ine (gI r0 0) 0) (.leaf (0,[(.s []),(.i (gI r0 0))])) (let r1:TR:=(yO [(.s x0),(.s x1)])
 .br (okR r1) (.br (gB r1 2) (let r2:TR:=(kO [(.i (qk .i64 (gI r1 0) (gI r1 1)))])
 .br (okR r2) (.leaf (0,[(.s (gS r2 0)),(.i (gI r2 1))])) .fail) (let r2:TR:=(q96 [(.r [[(.s x0)],[(.s x1)]])])
 .br (okR r2) (.leaf (0,[(.s (gS r2 0)),(.i (gI r2 1))])) .fail)) .fail)) .fail):=by kernel_rfl
theorem qjG(x0:List UInt8):q1p [.s x0]=(let r0:TR:=(yZ [(.s x0)])
 .br (okR r0) (.br (ieq (gI r0 0) 0) (.leaf (0,[(.s x0)])) (.br (ieq (gI r0 0) 1) (.br (ile ((wl [45])+(wl x0)) 140737488355328) (.leaf (0,[(.s (qs6 [45] x0))])) .fail) (.br (qaF (wl x0) (wl x0)) (.br (qaF 1 (wl x0)) (.leaf (0,[(.s (qjz x0 1 (wl x0)))])) .fail) .fail))) .fail):=by kernel_rfl
theorem qrU(x0:List UInt8)(x1:List UInt8):q64 [.s x0,.s x1]=(let r0:TR:=(zX [(.r [[(.s x0)],[(.s x1)]])])
 .br (okR r0) (.br (ine (gI r0 0) 0) (.leaf (0,[(.s []),(.i (gI r0 0))])) (let r1:TR:=(q1p [(.s x1)])
 .br (okR r1) (let r2:TR:=(q2n [(.s x0),(.s (gS r1 0))])
 .br (okR r2) (.leaf (0,[(.s (gS r2 0)),(.i (gI r2 1))])) .fail) .fail)) .fail):=by kernel_rfl
theorem q9F(x0:List UInt8)(x1:List UInt8)(x2:Int):wN [.s x0,.s x1,.i x2]=(.br (ine x2 0) (.leaf (0,[(.s [48]),(.i x2)])) (let r0:TR:=(q64 [(.s x0),(.s x1)])
 .br (okR r0) (.br (ine (gI r0 1) 0) (.leaf (0,[(.s [48]),(.i (gI r0 1))])) (.leaf (0,[(.s (gS r0 0)),(.i (gI r0 1))]))) .fail)):=by kernel_rfl
theorem qkt(x0:List UInt8)(x1:List UInt8)(x2:Int):zr [.s x0,.s x1,.i x2]=(let r0:TR:=(wN [(.s x0),(.s x1),(.i x2)])
 .br (okR r0) (.leaf (0,[(.s (gS r0 0)),(.i (gI r0 1))])) .fail):=by kernel_rfl
theorem qoF(x0:List UInt8)(x1:List UInt8)(x2:List UInt8)(x3:List UInt8)(x4:Int):q3e [.s x0,.s x1,.s x2,.s x3,.i x4]=(let r0:TR:=(qg [(.r [[(.s x0)],[(.s x3)]]),(.i x4)])
 .br (okR r0) (let r1:TR:=(qg [(.r [[(.s x2)],[(.s x1)]]),(.i (gI r0 1))])
 .br (okR r1) (let r2:TR:=(zr [(.s (gS r0 0)),(.s (gS r1 0)),(.i (gI r1 1))])
 .br (okR r2) (let r3:TR:=(qg [(.r [[(.s x1)],[(.s x3)]]),(.i (gI r2 1))])
 .br (okR r3) (.leaf (0,[(.s (gS r2 0)),(.s (gS r3 0)),(.i (gI r3 1))])) .fail) .fail) .fail) .fail):=by kernel_rfl
theorem qgl(x0:List UInt8)(x1:List UInt8):um [.s x0,.s x1]=(let r0:TR:=(qE [(.s x0),(.s x1)])
 .br (okR r0) (.leaf (0,[(.b (gB r0 0))])) .fail):=by kernel_rfl
theorem qmt(x0:List UInt8)(x1:List UInt8):q1F [.s x0,.s x1]=(.br (seq x1 [49]) (.leaf (0,[(.s x0)])) (.br (ile ((wl x0)+(wl [47])) 140737488355328) (.br (ile ((wl (qs6 x0 [47]))+(wl x1)) 140737488355328) (.leaf (0,[(.s (qs6 (qs6 x0 [47]) x1))])) .fail) .fail)):=by kernel_rfl
theorem qne(x0:List UInt8)(x1:List UInt8):q3P [.s x0,.s x1]=(let r0:TR:=(zX [(.r [[(.s x0)],[(.s x1)]])])
 .br (okR r0) (.br (ine (gI r0 0) 0) (.leaf (0,[(.s []),(.s []),(.i (gI r0 0))])) (.br (seq x1 [48]) (.leaf (0,[(.s []),(.s []),(.i 10)])) (let r1:TR:=(yO [(.s x0),(.s x1)])
 .br (okR r1) (.br (gB r1 2) (.br (ine (gI r1 1) 0) (.br (ine (gI r1 1) 0) (.br (ine (qou (gI r1 0) (gI r1 1)) 0) (.br (not (beq (ilt (qou (gI r1 0) (gI r1 1)) 0) (ilt (gI r1 1) 0))) (let r2:TR:=(zt [(.i (qB .i64 (kn .i64 (gI r1 0) (gI r1 1)) 1))])
 .br (okR r2) (let r3:TR:=(zt [(.i (qk .i64 (qou (gI r1 0) (gI r1 1)) (gI r1 1)))])
 .br (okR r3) (.leaf (0,[(.s (gS r2 0)),(.s (gS r3 0)),(.i 0)])) .fail) .fail) (let r2:TR:=(zt [(.i (kn .i64 (gI r1 0) (gI r1 1)))])
 .br (okR r2) (let r3:TR:=(zt [(.i (qou (gI r1 0) (gI r1 1)))])
 .br (okR r3) (.leaf (0,[(.s (gS r2 0)),(.s (gS r3 0)),(.i 0)])) .fail) .fail)) (let r2:TR:=(zt [(.i (kn .i64 (gI r1 0) (gI r1 1)))])
 .br (okR r2) (let r3:TR:=(zt [(.i (qou (gI r1 0) (gI r1 1)))])
 .br (okR r3) (.leaf (0,[(.s (gS r2 0)),(.s (gS r3 0)),(.i 0)])) .fail) .fail)) .fail) .fail) (let r2:TR:=(zB [(.s x0)])
 .br (okR r2) (let r3:TR:=(zB [(.s x1)])
 .br (okR r3) (let r4:TR:=(wL [(.b (gB r2 0)),(.i (gI r2 1)),(.r (gR r2 2)),(.b (gB r3 0)),(.i (gI r3 1)),(.r (gR r3 2))])
 .br (okR r4) (.br (ilt 0 (gI r4 10)) (.br (not (beq (gB r4 0) (gB r4 3))) (let r5:TR:=(ww [(.b true),(.i (gI r4 7)),(.r (gR r4 8)),(.b true),(.i 1),(.r (qe7 (q6p 232 [(.i 0)]) 0 0 [(.i 1)]))])
 .br (okR r5) (let r6:TR:=(ww [(.b (gB r4 0)),(.i (gI r4 10)),(.r (gR r4 11)),(.b (gB r4 3)),(.i (gI r4 4)),(.r (gR r4 5))])
 .br (okR r6) (let r7:TR:=(qK [(.b (gB r5 0)),(.i (gI r5 1)),(.r (gR r5 2))])
 .br (okR r7) (let r8:TR:=(qK [(.b (gB r6 0)),(.i (gI r6 1)),(.r (gR r6 2))])
 .br (okR r8) (.leaf (0,[(.s (gS r7 0)),(.s (gS r8 0)),(.i 0)])) .fail) .fail) .fail) .fail) (let r5:TR:=(qK [(.b (not (beq (gB r4 0) (gB r4 3)))),(.i (gI r4 7)),(.r (gR r4 8))])
 .br (okR r5) (let r6:TR:=(qK [(.b (gB r4 0)),(.i (gI r4 10)),(.r (gR r4 11))])
 .br (okR r6) (.leaf (0,[(.s (gS r5 0)),(.s (gS r6 0)),(.i 0)])) .fail) .fail)) (let r5:TR:=(qK [(.b (not (beq (gB r4 0) (gB r4 3)))),(.i (gI r4 7)),(.r (gR r4 8))])
 .br (okR r5) (let r6:TR:=(qK [(.b (gB r4 0)),(.i (gI r4 10)),(.r (gR r4 11))])
 .br (okR r6) (.leaf (0,[(.s (gS r5 0)),(.s (gS r6 0)),(.i 0)])) .fail) .fail)) .fail) .fail) .fail)) .fail))) .fail):=by kernel_rfl
theorem qry(x0:List UInt8)(x1:List UInt8):q62 [.s x0,.s x1]=(let r0:TR:=(q3P [(.s x0),(.s x1)])
 .br (okR r0) (.br (ine (gI r0 2) 0) (.leaf (0,[(.s []),(.i (gI r0 2))])) (let r1:TR:=(qM [(.s (gS r0 0))])
 .br (okR r1) (.br (ine (gI r1 0) 0) (.leaf (0,[(.s []),(.i (gI r1 0))])) (.leaf (0,[(.s (gS r0 0)),(.i 0)]))) .fail)) .fail):=by kernel_rfl
theorem q9M(x0:List UInt8)(x1:List UInt8)(x2:Int):wK [.s x0,.s x1,.i x2]=(.br (ine x2 0) (.leaf (0,[(.s [48]),(.i x2)])) (let r0:TR:=(q2h [(.s x0),(.s x1)])
 .br (okR r0) (.br (ine (gI r0 1) 0) (.leaf (0,[(.s [48]),(.i (gI r0 1))])) (.leaf (0,[(.s (gS r0 0)),(.i (gI r0 1))]))) .fail)):=by kernel_rfl
theorem q9P(x0:List UInt8)(x1:List UInt8)(x2:Int):qU [.s x0,.s x1,.i x2]=(.br (ine x2 0) (.leaf (0,[(.s [48]),(.i x2)])) (let r0:TR:=(q62 [(.s x0),(.s x1)])
 .br (okR r0) (.br (ine (gI r0 1) 0) (.leaf (0,[(.s [48]),(.i (gI r0 1))])) (.leaf (0,[(.s (gS r0 0)),(.i (gI r0 1))]))) .fail)):=by kernel_rfl
theorem qga(x0:List UInt8)(x1:List UInt8)(x2:Int):qA [.s x0,.s x1,.i x2]=(let r0:TR:=(wK [(.s x0),(.s x1),(.i x2)])
 .br (okR r0) (let r1:TR:=(um [(.s x1),(.s [45])])
 .br (okR r1) (.br (gB r1 0) (let r2:TR:=(zr [(.s [48]),(.s (gS r0 0)),(.i (gI r0 1))])
 .br (okR r2) (.br (ine (gI r2 1) 0) (.leaf (0,[(.s []),(.i (gI r2 1))])) (let r3:TR:=(qU [(.s x0),(.s (gS r2 0)),(.i (gI r2 1))])
 .br (okR r3) (let r4:TR:=(qU [(.s x1),(.s (gS r2 0)),(.i (gI r3 1))])
 .br (okR r4) (let r5:TR:=(q1F [(.s (gS r3 0)),(.s (gS r4 0))])
 .br (okR r5) (.leaf (0,[(.s (gS r5 0)),(.i (gI r4 1))])) .fail) .fail) .fail)) .fail) (.br (ine (gI r0 1) 0) (.leaf (0,[(.s []),(.i (gI r0 1))])) (let r2:TR:=(qU [(.s x0),(.s (gS r0 0)),(.i (gI r0 1))])
 .br (okR r2) (let r3:TR:=(qU [(.s x1),(.s (gS r0 0)),(.i (gI r2 1))])
 .br (okR r3) (let r4:TR:=(q1F [(.s (gS r2 0)),(.s (gS r3 0))])
 .br (okR r4) (.leaf (0,[(.s (gS r4 0)),(.i (gI r3 1))])) .fail) .fail) .fail))) .fail) .fail):=by kernel_rfl
theorem qbA(y0:R)(y1:Int)(y2:Int):q1A [.r y0,.i y1,.i y2]=(.br (ilt y2 y1) (.br (inb y2 (qf y0)) (let r0:TR:=(vO [(.s (cS y0 y2 0))])
 .br (okR r0) (.br (ine (gI r0 0) 0) (.leaf (2,[(.i (gI r0 0))])) (.leaf (0,[(.r y0),(.i y1),(.i (qk .i64 y2 1))]))) .fail) .fail) (.leaf (1,[]))):=by kernel_rfl
theorem qms(x0:R):qV [.r x0]=(let r0:TR:=(qj q1A [(.r x0),(.i (qf x0)),(.i 0)])
 .br (okR r0) (.br (jIs r0 0) (.leaf (0,[(.i 0)])) (.leaf (0,[(.i (gI r0 0))]))) .fail):=by kernel_rfl
theorem qaQ(x0:List UInt8)(x1:List UInt8):vd [.s x0,.s x1]=(let r0:TR:=(qV [(.r [[(.s x0)],[(.s x1)]])])
 .br (okR r0) (.br (ine (gI r0 0) 0) (.leaf (0,[(.s []),(.i (gI r0 0))])) (let r1:TR:=(qN [(.s x0)])
 .br (okR r1) (let r2:TR:=(qN [(.s x1)])
 .br (okR r2) (let r3:TR:=(q3e [(.s (gS r1 0)),(.s (gS r1 1)),(.s (gS r2 0)),(.s (gS r2 1)),(.i 0)])
 .br (okR r3) (.br (ine (gI r3 2) 0) (.leaf (0,[(.s []),(.i (gI r3 2))])) (.br (seq (gS r3 1) [48]) (.leaf (0,[(.s []),(.i 10)])) (let r4:TR:=(qA [(.s (gS r3 0)),(.s (gS r3 1)),(.i (gI r3 2))])
 .br (okR r4) (.leaf (0,[(.s (gS r4 0)),(.i (gI r4 1))])) .fail))) .fail) .fail) .fail)) .fail):=by kernel_rfl
theorem qs9(x0:List UInt8)(x1:List UInt8):q6l [.s x0,.s x1]=(let r0:TR:=(vd [(.s x0),(.s x1)])
 .br (okR r0) (.leaf (0,[(.s (gS r0 0)),(.i (gI r0 1))])) .fail):=by kernel_rfl
theorem q9Q(x0:List UInt8)(x1:List UInt8)(x2:Int):wM [.s x0,.s x1,.i x2]=(.br (ine x2 0) (.leaf (0,[(.s [48]),(.i x2)])) (let r0:TR:=(q6l [(.s x0),(.s x1)])
 .br (okR r0) (.br (ine (gI r0 1) 0) (.leaf (0,[(.s [48]),(.i (gI r0 1))])) (.leaf (0,[(.s (gS r0 0)),(.i (gI r0 1))]))) .fail)):=by kernel_rfl
theorem qkw(x0:List UInt8)(x1:List UInt8)(x2:Int):z6 [.s x0,.s x1,.i x2]=(let r0:TR:=(wM [(.s x0),(.s x1),(.i x2)])
 .br (okR r0) (.leaf (0,[(.s (gS r0 0)),(.i (gI r0 1))])) .fail):=by kernel_rfl
theorem qjv(x0:List UInt8)(x1:List UInt8)(x2:List UInt8)(x3:List UInt8)(x4:Int):jl [.s x0,.s x1,.s x2,.s x3,.i x4]=(let r0:TR:=(z6 [(.s x0),(.s x2),(.i x4)])
 .br (okR r0) (let r1:TR:=(z6 [(.s x1),(.s x3),(.i (gI r0 1))])
 .br (okR r1) (.leaf (0,[(.s (gS r0 0)),(.s (gS r1 0)),(.i (gI r1 1))])) .fail) .fail):=by kernel_rfl
theorem q9K(x0:List UInt8)(x1:List UInt8)(x2:Int):wQ [.s x0,.s x1,.i x2]=(.br (ine x2 0) (.leaf (0,[(.s [48]),(.i x2)])) (let r0:TR:=(q2n [(.s x0),(.s x1)])
 .br (okR r0) (.br (ine (gI r0 1) 0) (.leaf (0,[(.s [48]),(.i (gI r0 1))])) (.leaf (0,[(.s (gS r0 0)),(.i (gI r0 1))]))) .fail)):=by kernel_rfl
theorem qk6(x0:List UInt8)(x1:List UInt8)(x2:Int):yi [.s x0,.s x1,.i x2]=(let r0:TR:=(wQ [(.s x0),(.s x1),(.i x2)])
 .br (okR r0) (.leaf (0,[(.s (gS r0 0)),(.i (gI r0 1))])) .fail):=by kernel_rfl
theorem qoB(x0:List UInt8)(x1:List UInt8)(x2:List UInt8)(x3:List UInt8)(x4:Int):q2T [.s x0,.s x1,.s x2,.s x3,.i x4]=(let r0:TR:=(qg [(.r [[(.s x0)],[(.s x3)]]),(.i x4)])
 .br (okR r0) (let r1:TR:=(qg [(.r [[(.s x2)],[(.s x1)]]),(.i (gI r0 1))])
 .br (okR r1) (let r2:TR:=(yi [(.s (gS r0 0)),(.s (gS r1 0)),(.i (gI r1 1))])
 .br (okR r2) (let r3:TR:=(qg [(.r [[(.s x1)],[(.s x3)]]),(.i (gI r2 1))])
 .br (okR r3) (.leaf (0,[(.s (gS r2 0)),(.s (gS r3 0)),(.i (gI r3 1))])) .fail) .fail) .fail) .fail):=by kernel_rfl
theorem qbp(x0:List UInt8)(x1:List UInt8):vj [.s x0,.s x1]=(let r0:TR:=(qV [(.r [[(.s x0)],[(.s x1)]])])
 .br (okR r0) (.br (ine (gI r0 0) 0) (.leaf (0,[(.s []),(.i (gI r0 0))])) (let r1:TR:=(qN [(.s x0)])
 .br (okR r1) (let r2:TR:=(qN [(.s x1)])
 .br (okR r2) (let r3:TR:=(q2T [(.s (gS r1 0)),(.s (gS r1 1)),(.s (gS r2 0)),(.s (gS r2 1)),(.i 0)])
 .br (okR r3) (.br (ine (gI r3 2) 0) (.leaf (0,[(.s []),(.i (gI r3 2))])) (.br (seq (gS r3 1) [48]) (.leaf (0,[(.s []),(.i 10)])) (let r4:TR:=(qA [(.s (gS r3 0)),(.s (gS r3 1)),(.i (gI r3 2))])
 .br (okR r4) (.leaf (0,[(.s (gS r4 0)),(.i (gI r4 1))])) .fail))) .fail) .fail) .fail)) .fail):=by kernel_rfl
theorem qrj(x0:List UInt8)(x1:List UInt8):q6d [.s x0,.s x1]=(let r0:TR:=(vj [(.s x0),(.s x1)])
 .br (okR r0) (.leaf (0,[(.s (gS r0 0)),(.i (gI r0 1))])) .fail):=by kernel_rfl
theorem q9J(x0:List UInt8)(x1:List UInt8)(x2:Int):wI [.s x0,.s x1,.i x2]=(.br (ine x2 0) (.leaf (0,[(.s [48]),(.i x2)])) (let r0:TR:=(q6d [(.s x0),(.s x1)])
 .br (okR r0) (.br (ine (gI r0 1) 0) (.leaf (0,[(.s [48]),(.i (gI r0 1))])) (.leaf (0,[(.s (gS r0 0)),(.i (gI r0 1))]))) .fail)):=by kernel_rfl
theorem qjA(x0:List UInt8)(x1:List UInt8)(x2:Int):zN [.s x0,.s x1,.i x2]=(let r0:TR:=(wI [(.s x0),(.s x1),(.i x2)])
 .br (okR r0) (.leaf (0,[(.s (gS r0 0)),(.i (gI r0 1))])) .fail):=by kernel_rfl
theorem qo8(x0:List UInt8)(x1:List UInt8)(x2:List UInt8)(x3:List UInt8)(x4:Int):q2R [.s x0,.s x1,.s x2,.s x3,.i x4]=(let r0:TR:=(qg [(.r [[(.s x0)],[(.s x2)]]),(.i x4)])
 .br (okR r0) (let r1:TR:=(qg [(.r [[(.s x1)],[(.s x3)]]),(.i (gI r0 1))])
 .br (okR r1) (.leaf (0,[(.s (gS r0 0)),(.s (gS r1 0)),(.i (gI r1 1))])) .fail) .fail):=by kernel_rfl
theorem qbh(x0:List UInt8)(x1:List UInt8):vq [.s x0,.s x1]=(let r0:TR:=(qV [(.r [[(.s x0)],[(.s x1)]])])
 .br (okR r0) (.br (ine (gI r0 0) 0) (.leaf (0,[(.s []),(.i (gI r0 0))])) (let r1:TR:=(qN [(.s x0)])
 .br (okR r1) (let r2:TR:=(qN [(.s x1)])
 .br (okR r2) (let r3:TR:=(q2R [(.s (gS r1 0)),(.s (gS r1 1)),(.s (gS r2 0)),(.s (gS r2 1)),(.i 0)])
 .br (okR r3) (.br (ine (gI r3 2) 0) (.leaf (0,[(.s []),(.i (gI r3 2))])) (.br (seq (gS r3 1) [48]) (.leaf (0,[(.s []),(.i 10)])) (let r4:TR:=(qA [(.s (gS r3 0)),(.s (gS r3 1)),(.i (gI r3 2))])
 .br (okR r4) (.leaf (0,[(.s (gS r4 0)),(.i (gI r4 1))])) .fail))) .fail) .fail) .fail)) .fail):=by kernel_rfl
theorem qsI(x0:List UInt8)(x1:List UInt8):q1c [.s x0,.s x1]=(let r0:TR:=(vq [(.s x0),(.s x1)])
 .br (okR r0) (.leaf (0,[(.s (gS r0 0)),(.i (gI r0 1))])) .fail):=by kernel_rfl
theorem q9I(x0:List UInt8)(x1:List UInt8)(x2:Int):wO [.s x0,.s x1,.i x2]=(.br (ine x2 0) (.leaf (0,[(.s [48]),(.i x2)])) (let r0:TR:=(q1c [(.s x0),(.s x1)])
 .br (okR r0) (.br (ine (gI r0 1) 0) (.leaf (0,[(.s [48]),(.i (gI r0 1))])) (.leaf (0,[(.s (gS r0 0)),(.i (gI r0 1))]))) .fail)):=by kernel_rfl
theorem qko(x0:List UInt8)(x1:List UInt8)(x2:Int):qX [.s x0,.s x1,.i x2]=(let r0:TR:=(wO [(.s x0),(.s x1),(.i x2)])
 .br (okR r0) (.leaf (0,[(.s (gS r0 0)),(.i (gI r0 1))])) .fail):=by kernel_rfl
theorem qjK(x0:List UInt8)(x1:List UInt8)(x2:List UInt8)(x3:List UInt8)(x4:Int):wS [.s x0,.s x1,.s x2,.s x3,.i x4]=(let r0:TR:=(qX [(.s x0),(.s x2),(.i x4)])
 .br (okR r0) (let r1:TR:=(qX [(.s x1),(.s x3),(.i (gI r0 1))])
 .br (okR r1) (let r2:TR:=(zN [(.s (gS r0 0)),(.s (gS r1 0)),(.i (gI r1 1))])
 .br (okR r2) (.leaf (0,[(.s (gS r2 0)),(.i (gI r2 1))])) .fail) .fail) .fail):=by kernel_rfl
theorem qoI(x0:List UInt8)(x1:List UInt8)(x2:List UInt8)(x3:List UInt8)(x4:Int):q37 [.s x0,.s x1,.s x2,.s x3,.i x4]=(let r0:TR:=(qg [(.r [[(.s x0)],[(.s x3)]]),(.i x4)])
 .br (okR r0) (let r1:TR:=(qg [(.r [[(.s x1)],[(.s x2)]]),(.i (gI r0 1))])
 .br (okR r1) (.leaf (0,[(.s (gS r0 0)),(.s (gS r1 0)),(.i (gI r1 1))])) .fail) .fail):=by kernel_rfl
theorem qb1(x0:List UInt8)(x1:List UInt8):vn [.s x0,.s x1]=(let r0:TR:=(qV [(.r [[(.s x0)],[(.s x1)]])])
 .br (okR r0) (.br (ine (gI r0 0) 0) (.leaf (0,[(.s []),(.i (gI r0 0))])) (let r1:TR:=(qN [(.s x0)])
 .br (okR r1) (let r2:TR:=(qN [(.s x1)])
 .br (okR r2) (let r3:TR:=(q37 [(.s (gS r1 0)),(.s (gS r1 1)),(.s (gS r2 0)),(.s (gS r2 1)),(.i 0)])
 .br (okR r3) (.br (ine (gI r3 2) 0) (.leaf (0,[(.s []),(.i (gI r3 2))])) (.br (seq (gS r3 1) [48]) (.leaf (0,[(.s []),(.i 10)])) (let r4:TR:=(qA [(.s (gS r3 0)),(.s (gS r3 1)),(.i (gI r3 2))])
 .br (okR r4) (.leaf (0,[(.s (gS r4 0)),(.i (gI r4 1))])) .fail))) .fail) .fail) .fail)) .fail):=by kernel_rfl
theorem qsx(x0:List UInt8)(x1:List UInt8):q5L [.s x0,.s x1]=(let r0:TR:=(qV [(.r [[(.s x0)],[(.s x1)]])])
 .br (okR r0) (.br (ine (gI r0 0) 0) (.leaf (0,[(.s []),(.i (gI r0 0))])) (.br (seq x1 [48]) (.leaf (0,[(.s []),(.i 10)])) (let r1:TR:=(vn [(.s x0),(.s x1)])
 .br (okR r1) (.leaf (0,[(.s (gS r1 0)),(.i (gI r1 1))])) .fail))) .fail):=by kernel_rfl
theorem q9R(x0:List UInt8)(x1:List UInt8)(x2:Int):zQ [.s x0,.s x1,.i x2]=(.br (ine x2 0) (.leaf (0,[(.s [48]),(.i x2)])) (let r0:TR:=(q5L [(.s x0),(.s x1)])
 .br (okR r0) (.br (ine (gI r0 1) 0) (.leaf (0,[(.s [48]),(.i (gI r0 1))])) (.leaf (0,[(.s (gS r0 0)),(.i (gI r0 1))]))) .fail)):=by kernel_rfl
theorem qhv(x0:R)(x1:Int)(x2:Int)(x3:Int)(x4:Int):vT [.r x0,.i x1,.i x2,.i x3,.i x4]=(.br (inb x1 (qf x0)) (.br (inb x2 (qf x0)) (.br (ieq x1 x2) (.leaf (0,[(.s (cS x0 x1 0)),(.s (cS x0 x1 1)),(.s [48]),(.s [48]),(.s [48]),(.b (ieq x3 0)),(.i x4)])) (let r0:TR:=(jl [(.s (cS x0 x2 0)),(.s (cS x0 x2 1)),(.s (cS x0 x1 0)),(.s (cS x0 x1 1)),(.i x4)])
 .br (okR r0) (let r1:TR:=(wS [(.s (gS r0 0)),(.s (gS r0 1)),(.s (gS r0 0)),(.s (gS r0 1)),(.i (gI r0 2))])
 .br (okR r1) (.br (seq (gS r1 0) [48]) (.leaf (0,[(.s []),(.s []),(.s []),(.s []),(.s []),(.b false),(.i (gI r1 1))])) (let r2:TR:=(zN [(.s (gS r1 0)),(.s (cS x0 x1 2)),(.i (gI r1 1))])
 .br (okR r2) (let r3:TR:=(z6 [(.s (gS r2 0)),(.s (cS x0 x2 2)),(.i (gI r2 1))])
 .br (okR r3) (let r4:TR:=(qX [(.s [50]),(.s (gS r1 0)),(.i (gI r3 1))])
 .br (okR r4) (let r5:TR:=(zQ [(.s (gS r3 0)),(.s (gS r4 0)),(.i (gI r4 1))])
 .br (okR r5) (let r6:TR:=(qX [(.s (gS r5 0)),(.s (gS r0 0)),(.i (gI r5 1))])
 .br (okR r6) (let r7:TR:=(zN [(.s (cS x0 x1 0)),(.s (gS r6 0)),(.i (gI r6 1))])
 .br (okR r7) (let r8:TR:=(qX [(.s (gS r5 0)),(.s (gS r0 1)),(.i (gI r7 1))])
 .br (okR r8) (let r9:TR:=(zN [(.s (cS x0 x1 1)),(.s (gS r8 0)),(.i (gI r8 1))])
 .br (okR r9) (let r10:TR:=(z6 [(.s [48]),(.s (gS r0 1)),(.i (gI r9 1))])
 .br (okR r10) (let r11:TR:=(zQ [(.s (cS x0 x1 2)),(.s (gS r1 0)),(.i (gI r10 1))])
 .br (okR r11) (let r12:TR:=(qX [(.s (gS r5 0)),(.s (gS r5 0)),(.i (gI r11 1))])
 .br (okR r12) (let r13:TR:=(z6 [(.s (gS r11 0)),(.s (gS r12 0)),(.i (gI r12 1))])
 .br (okR r13) (.br (ilt x3 0) (let r14:TR:=(z6 [(.s [48]),(.s (gS r0 0)),(.i (gI r13 1))])
 .br (okR r14) (.br (ieq (gI r14 1) 0) (.br (inb 0 (wl (gS r13 0))) (.br (ine (sat (gS r13 0) 0) 45) (.leaf (0,[(.s (gS r7 0)),(.s (gS r9 0)),(.s (gS r0 1)),(.s (gS r14 0)),(.s (gS r13 0)),(.b (beq (seq (gS r13 0) [48]) (ieq x3 0))),(.i (gI r14 1))])) (.leaf (0,[(.s (gS r7 0)),(.s (gS r9 0)),(.s (gS r0 1)),(.s (gS r14 0)),(.s (gS r13 0)),(.b false),(.i (gI r14 1))]))) .fail) (.leaf (0,[(.s (gS r7 0)),(.s (gS r9 0)),(.s (gS r0 1)),(.s (gS r14 0)),(.s (gS r13 0)),(.b false),(.i (gI r14 1))]))) .fail) (.br (ieq (gI r13 1) 0) (.br (inb 0 (wl (gS r13 0))) (.br (ine (sat (gS r13 0) 0) 45) (.leaf (0,[(.s (gS r7 0)),(.s (gS r9 0)),(.s (gS r10 0)),(.s (gS r0 0)),(.s (gS r13 0)),(.b (beq (seq (gS r13 0) [48]) (ieq x3 0))),(.i (gI r13 1))])) (.leaf (0,[(.s (gS r7 0)),(.s (gS r9 0)),(.s (gS r10 0)),(.s (gS r0 0)),(.s (gS r13 0)),(.b false),(.i (gI r13 1))]))) .fail) (.leaf (0,[(.s (gS r7 0)),(.s (gS r9 0)),(.s (gS r10 0)),(.s (gS r0 0)),(.s (gS r13 0)),(.b false),(.i (gI r13 1))])))) .fail) .fail) .fail) .fail) .fail) .fail) .fail) .fail) .fail) .fail) .fail) .fail)) .fail) .fail)) .fail) .fail):=by kernel_rfl
theorem qqS(x0:List UInt8):q73 [.s x0]=(let r0:TR:=(qM [(.s x0)])
 .br (okR r0) (.br (ine (gI r0 0) 0) (.leaf (0,[(.i 0),(.i (gI r0 0))])) (let r1:TR:=(yZ [(.s x0)])
 .br (okR r1) (.leaf (0,[(.i (gI r1 0)),(.i 0)])) .fail)) .fail):=by kernel_rfl
theorem qiS(x0:List UInt8)(x1:Int):zu [.s x0,.i x1]=(.br (ine x1 0) (.leaf (0,[(.i 0),(.i x1)])) (let r0:TR:=(q73 [(.s x0)])
 .br (okR r0) (.leaf (0,[(.i (gI r0 0)),(.i (gI r0 1))])) .fail)):=by kernel_rfl
theorem qik(x0:List UInt8)(x1:List UInt8)(x2:List UInt8)(x3:Int):ud [.s x0,.s x1,.s x2,.i x3]=(let r0:TR:=(zu [(.s x0),(.i x3)])
 .br (okR r0) (let r1:TR:=(zu [(.s x1),(.i (gI r0 1))])
 .br (okR r1) (let r2:TR:=(zu [(.s x2),(.i (gI r1 1))])
 .br (okR r2) (.br (ile 0 (jF .i64 (gI r0 0) (jF .i64 (gI r1 0) (gI r2 0)))) (.br (ine (gI r0 0) 0) (.leaf (0,[(.i (gI r0 0)),(.i (gI r2 1))])) (.leaf (0,[(.i (jF .i64 (gI r1 0) (gI r2 0))),(.i (gI r2 1))]))) (let r3:TR:=(qg [(.r [[(.s x0)],[(.s x0)]]),(.i (gI r2 1))])
 .br (okR r3) (let r4:TR:=(qg [(.r [[(.s x1)],[(.s x1)],[(.s x2)]]),(.i (gI r3 1))])
 .br (okR r4) (let r5:TR:=(zr [(.s (gS r3 0)),(.s (gS r4 0)),(.i (gI r4 1))])
 .br (okR r5) (let r6:TR:=(zu [(.s (gS r5 0)),(.i (gI r5 1))])
 .br (okR r6) (.leaf (0,[(.i (jF .i64 (gI r0 0) (gI r6 0))),(.i (gI r6 1))])) .fail) .fail) .fail) .fail)) .fail) .fail) .fail):=by kernel_rfl
theorem qi8(x0:List UInt8)(x1:List UInt8)(x2:List UInt8)(x3:List UInt8)(x4:List UInt8):q0e [.s x0,.s x1,.s x2,.s x3,.s x4]=(let r0:TR:=(qV [(.r [[(.s x0)],[(.s x1)],[(.s x2)],[(.s x3)],[(.s x4)]])])
 .br (okR r0) (.br (ine (gI r0 0) 0) (.leaf (0,[(.i 0),(.i (gI r0 0))])) (.br (inb 0 (wl x2)) (.br (ieq (sat x2 0) 45) (.leaf (0,[(.i 0),(.i 2)])) (.br (inb 0 (wl x4)) (.br (ieq (sat x4 0) 45) (.leaf (0,[(.i 0),(.i 2)])) (let r1:TR:=(qN [(.s x0)])
 .br (okR r1) (let r2:TR:=(qN [(.s x1)])
 .br (okR r2) (let r3:TR:=(qN [(.s x2)])
 .br (okR r3) (let r4:TR:=(qN [(.s x3)])
 .br (okR r4) (let r5:TR:=(qN [(.s x4)])
 .br (okR r5) (let r6:TR:=(qg [(.r [[(.s (gS r1 0))],[(.s (gS r2 1))],[(.s (gS r3 1))],[(.s (gS r4 1))],[(.s (gS r5 1))]]),(.i 0)])
 .br (okR r6) (let r7:TR:=(qg [(.r [[(.s (gS r2 0))],[(.s (gS r1 1))],[(.s (gS r4 1))],[(.s (gS r5 1))]]),(.i (gI r6 1))])
 .br (okR r7) (let r8:TR:=(qg [(.r [[(.s (gS r3 0))],[(.s (gS r3 1))]]),(.i (gI r7 1))])
 .br (okR r8) (let r9:TR:=(qg [(.r [[(.s (gS r4 0))],[(.s (gS r1 1))],[(.s (gS r2 1))],[(.s (gS r3 1))]]),(.i (gI r8 1))])
 .br (okR r9) (let r10:TR:=(qg [(.r [[(.s (gS r5 0))],[(.s (gS r5 1))]]),(.i (gI r9 1))])
 .br (okR r10) (let r11:TR:=(ud [(.s (gS r6 0)),(.s (gS r7 0)),(.s (gS r8 0)),(.i (gI r10 1))])
 .br (okR r11) (let r12:TR:=(zu [(.s (gS r9 0)),(.i (gI r11 1))])
 .br (okR r12) (let r13:TR:=(zu [(.s (gS r10 0)),(.i (gI r12 1))])
 .br (okR r13) (.br (ile 0 (jF .i64 (gI r11 0) (jF .i64 (gI r12 0) (gI r13 0)))) (.br (ieq (gI r11 0) 0) (.leaf (0,[(.i (jF .i64 (gI r12 0) (gI r13 0))),(.i (gI r13 1))])) (.leaf (0,[(.i (gI r11 0)),(.i (gI r13 1))]))) (let r14:TR:=(qg [(.r [[(.s (gS r6 0))],[(.s (gS r6 0))]]),(.i (gI r13 1))])
 .br (okR r14) (let r15:TR:=(qg [(.r [[(.s (gS r7 0))],[(.s (gS r7 0))],[(.s (gS r8 0))]]),(.i (gI r14 1))])
 .br (okR r15) (let r16:TR:=(yi [(.s (gS r14 0)),(.s (gS r15 0)),(.i (gI r15 1))])
 .br (okR r16) (let r17:TR:=(qg [(.r [[(.s (gS r9 0))],[(.s (gS r9 0))],[(.s (gS r10 0))]]),(.i (gI r16 1))])
 .br (okR r17) (let r18:TR:=(zr [(.s (gS r16 0)),(.s (gS r17 0)),(.i (gI r17 1))])
 .br (okR r18) (let r19:TR:=(qg [(.r [[(.s [50])],[(.s (gS r6 0))],[(.s (gS r7 0))]]),(.i (gI r18 1))])
 .br (okR r19) (let r20:TR:=(ud [(.s (gS r18 0)),(.s (gS r19 0)),(.s (gS r8 0)),(.i (gI r19 1))])
 .br (okR r20) (.br (ine (gI r20 1) 0) (.leaf (0,[(.i 0),(.i (gI r20 1))])) (.leaf (0,[(.i (jF .i64 (gI r11 0) (gI r20 0))),(.i 0)]))) .fail) .fail) .fail) .fail) .fail) .fail) .fail)) .fail) .fail) .fail) .fail) .fail) .fail) .fail) .fail) .fail) .fail) .fail) .fail) .fail)) .fail)) .fail)) .fail):=by kernel_rfl
theorem qkd(x0:List UInt8)(x1:List UInt8)(x2:List UInt8):q1t [.s x0,.s x1,.s x2]=(let r0:TR:=(q0e [(.s x0),(.s x1),(.s x2),(.s [48]),(.s [48])])
 .br (okR r0) (.leaf (0,[(.i (gI r0 0)),(.i (gI r0 1))])) .fail):=by kernel_rfl
theorem qiY(x0:List UInt8)(x1:List UInt8)(x2:List UInt8)(x3:Int):q0p [.s x0,.s x1,.s x2,.i x3]=(.br (ine x3 0) (.leaf (0,[(.i 0),(.i x3)])) (let r0:TR:=(q1t [(.s x0),(.s x1),(.s x2)])
 .br (okR r0) (.leaf (0,[(.i (gI r0 0)),(.i (gI r0 1))])) .fail)):=by kernel_rfl
theorem qhC(x0:List UInt8)(x1:List UInt8)(x2:List UInt8)(x3:List UInt8)(x4:List UInt8)(x5:List UInt8)(x6:List UInt8)(x7:List UInt8)(x8:Int):jS [.s x0,.s x1,.s x2,.s x3,.s x4,.s x5,.s x6,.s x7,.i x8]=(let r0:TR:=(jl [(.s x3),(.s x4),(.s x0),(.s x1),(.i x8)])
 .br (okR r0) (let r1:TR:=(wS [(.s (gS r0 0)),(.s (gS r0 1)),(.s (gS r0 0)),(.s (gS r0 1)),(.i (gI r0 2))])
 .br (okR r1) (let r2:TR:=(wS [(.s x5),(.s x6),(.s x5),(.s x6),(.i (gI r1 1))])
 .br (okR r2) (let r3:TR:=(qX [(.s x7),(.s (gS r2 0)),(.i (gI r2 1))])
 .br (okR r3) (let r4:TR:=(zN [(.s (gS r1 0)),(.s (gS r3 0)),(.i (gI r3 1))])
 .br (okR r4) (let r5:TR:=(z6 [(.s (gS r4 0)),(.s x2),(.i (gI r4 1))])
 .br (okR r5) (let r6:TR:=(wS [(.s (gS r0 0)),(.s (gS r0 1)),(.s x5),(.s x6),(.i (gI r5 1))])
 .br (okR r6) (let r7:TR:=(qX [(.s [50]),(.s (gS r6 0)),(.i (gI r6 1))])
 .br (okR r7) (let r8:TR:=(q0p [(.s (gS r5 0)),(.s (gS r7 0)),(.s x7),(.i (gI r7 1))])
 .br (okR r8) (.leaf (0,[(.b (ile (gI r8 0) 0)),(.i (gI r8 1))])) .fail) .fail) .fail) .fail) .fail) .fail) .fail) .fail) .fail):=by kernel_rfl
theorem uD(y0:R)(y1:Int)(y2:Int)(y3:R)(y4:R)(y5:R)(y6:Int)(y7:Int)(y8:Int)(y9:Bool)(y10:List UInt8)(y11:List UInt8)(y12:List UInt8)(y13:List UInt8)(y14:List UInt8)(y15:Bool)(y16:R)(y17:Int)(y18:Int)(y19:Int)(y20:List UInt8)(y21:List UInt8)(y22:List UInt8)(y23:List UInt8)(y24:List UInt8)(y25:Bool)(y26:List UInt8)(y27:List UInt8)(y28:List UInt8)(y29:List UInt8)(y30:List UInt8)(y31:Bool)(y32:Bool)(y33:R)(y34:Int)(y35:Int)(y36:Int)(y37:Int)(y38:List UInt8)(y39:List UInt8)(y40:List UInt8)(y41:List UInt8)(y42:List UInt8):wJ [.r y0,.i y1,.i y2,.r y3,.r y4,.r y5,.i y6,.i y7,.i y8,.b y9,.s y10,.s y11,.s y12,.s y13,.s y14,.b y15,.r y16,.i y17,.i y18,.i y19,.s y20,.s y21,.s y22,.s y23,.s y24,.b y25,.s y26,.s y27,.s y28,.s y29,.s y30,.b y31,.b y32,.r y33,.i y34,.i y35,.i y36,.i y37,.s y38,.s y39,.s y40,.s y41,.s y42]=(.br (ilt y2 y1) (.br (inb y2 (qf y0)) (let r0:TR:=(jS [(.s (cS y0 y2 0)),(.s (cS y0 y2 1)),(.s (cS y0 y2 2)),(.s y38),(.s y39),(.s y40),(.s y41),(.s y42),(.i y34)])
 .br (okR r0) (.br (not (gB r0 0)) (.leaf (2,[(.i y2),(.r y3),(.r y4),(.r y5),(.i y6),(.i y7),(.i y8),(.b y9),(.s y10),(.s y11),(.s y12),(.s y13),(.s y14),(.b y15),(.r y16),(.i y17),(.i y18),(.i y19),(.s y20),(.s y21),(.s y22),(.s y23),(.s y24),(.b y25),(.s y26),(.s y27),(.s y28),(.s y29),(.s y30),(.b y31),(.b y32),(.r y33),(.i (gI r0 1)),(.i y35),(.i y36),(.i y37),(.s y38),(.s y39),(.s y40),(.s y41),(.s y42)])) (.leaf (0,[(.r y0),(.i y1),(.i (qk .i64 y2 1)),(.r y3),(.r y4),(.r y5),(.i y6),(.i y7),(.i y8),(.b y9),(.s y10),(.s y11),(.s y12),(.s y13),(.s y14),(.b y15),(.r y16),(.i y17),(.i y18),(.i y19),(.s y20),(.s y21),(.s y22),(.s y23),(.s y24),(.b y25),(.s y26),(.s y27),(.s y28),(.s y29),(.s y30),(.b y31),(.b y32),(.r y33),(.i (gI r0 1)),(.i y35),(.i y36),(.i y37),(.s y38),(.s y39),(.s y40),(.s y41),(.s y42)]))) .fail) .fail) (.leaf (1,[(.r y3),(.r y4),(.r y5),(.i y6),(.i y7),(.i y8),(.b y9),(.s y10),(.s y11),(.s y12),(.s y13),(.s y14),(.b y15),(.r y16),(.i y17),(.i y18),(.i y19),(.s y20),(.s y21),(.s y22),(.s y23),(.s y24),(.b y25),(.s y26),(.s y27),(.s y28),(.s y29),(.s y30),(.b y31),(.b y32),(.r y33),(.i y34),(.i y35),(.i y36),(.i y37),(.s y38),(.s y39),(.s y40),(.s y41),(.s y42)]))):=by kernel_rfl
theorem qgn(x0:R)(x1:Int)(x2:Int)(x3:Int)(x4:Int):zl [.r x0,.i x1,.i x2,.i x3,.i x4]=(let r0:TR:=(vT [(.r x0),(.i x1),(.i x2),(.i x3),(.i x4)])
 .br (okR r0) (.br (gB r0 5) (let r1:TR:=(qj wJ [(.r x0),(.i (qf x0)),(.i 0),(.r x0),(.r x0),(.r x0),(.i x1),(.i x2),(.i x3),(.b (gB r0 5)),(.s (gS r0 0)),(.s (gS r0 1)),(.s (gS r0 2)),(.s (gS r0 3)),(.s (gS r0 4)),(.b (gB r0 5)),(.r x0),(.i x1),(.i x2),(.i x3),(.s (gS r0 0)),(.s (gS r0 1)),(.s (gS r0 2)),(.s (gS r0 3)),(.s (gS r0 4)),(.b (gB r0 5)),(.s (gS r0 0)),(.s (gS r0 1)),(.s (gS r0 2)),(.s (gS r0 3)),(.s (gS r0 4)),(.b (gB r0 5)),(.b (gB r0 5)),(.r x0),(.i (gI r0 6)),(.i x1),(.i x2),(.i x3),(.s (gS r0 0)),(.s (gS r0 1)),(.s (gS r0 2)),(.s (gS r0 3)),(.s (gS r0 4))])
 .br (okR r1) (.br (jIs r1 0) (.leaf (0,[(.b (ieq (gI r1 31) 0)),(.i (gI r1 31))])) (.br (not (ile 0 (gI r1 0))) (.leaf (0,[(.b (ieq (gI r1 32) 0)),(.i (gI r1 32))])) (.leaf (0,[(.b false),(.i (gI r1 32))])))) .fail) (.leaf (0,[(.b false),(.i (gI r0 6))]))) .fail):=by kernel_rfl
theorem q3Y(y0:Int)(y1:Int)(y2:Int)(y3:R)(y4:Int)(y5:Int)(y6:Int)(y7:Bool)(y8:Int):vr [.i y0,.i y1,.i y2,.r y3,.i y4,.i y5,.i y6,.b y7,.i y8]=(.br (ilt y1 y0) (let r0:TR:=(zl [(.r y3),(.i y1),(.i y1),(.i 0),(.i y2)])
 .br (okR r0) (.br (gB r0 0) (.leaf (2,[(.i (gI r0 1)),(.r y3),(.i y1),(.i y1),(.i 0),(.b true),(.i y8)])) (.leaf (0,[(.i y0),(.i (qk .i64 y1 1)),(.i (gI r0 1)),(.r y3),(.i y4),(.i y5),(.i y6),(.b y7),(.i y8)]))) .fail) (.leaf (1,[(.i y2),(.r y3),(.i y4),(.i y5),(.i y6),(.b y7),(.i y8)]))):=by kernel_rfl
theorem q3k(y0:Int)(y1:Int)(y2:Int)(y3:Int)(y4:Int)(y5:Int)(y6:Int)(y7:R)(y8:Int)(y9:Int)(y10:Int)(y11:Bool)(y12:Int)(y13:R):wP [.i y0,.i y1,.i y2,.i y3,.i y4,.i y5,.i y6,.r y7,.i y8,.i y9,.i y10,.b y11,.i y12,.r y13]=(.br (ilt y5 y4) (.br (inb y5 (qf y13)) (let r0:TR:=(zl [(.r y7),(.i y0),(.i y1),(.i (cI y13 y5 0)),(.i y6)])
 .br (okR r0) (.br (gB r0 0) (.leaf (2,[(.i (gI r0 1)),(.r y7),(.i y0),(.i y1),(.i (cI y13 y5 0)),(.b true),(.i y12)])) (.leaf (0,[(.i y0),(.i y1),(.i y2),(.i y3),(.i y4),(.i (qk .i64 y5 1)),(.i (gI r0 1)),(.r y7),(.i y8),(.i y9),(.i y10),(.b y11),(.i y12),(.r y13)]))) .fail) .fail) (.leaf (1,[(.i y0),(.i y1),(.i y2),(.i y3),(.i y6),(.r y7),(.i y8),(.i y9),(.i y10),(.b y11),(.i y12)]))):=by kernel_rfl
theorem q3j(y0:Int)(y1:Int)(y2:Int)(y3:Int)(y4:Int)(y5:R)(y6:Int)(y7:Int)(y8:Int)(y9:Bool)(y10:Int):wH [.i y0,.i y1,.i y2,.i y3,.i y4,.r y5,.i y6,.i y7,.i y8,.b y9,.i y10]=(.br (ilt y1 y10) (let r0:TR:=(qj wP [(.i y0),(.i y1),(.i y2),(.i y3),(.i (qf [[(.i 0)],[(.i 1)],[(.i (-1))]])),(.i 0),(.i y4),(.r y5),(.i y6),(.i y7),(.i y8),(.b y9),(.i y10),(.r [[(.i 0)],[(.i 1)],[(.i (-1))]])])
 .br (okR r0) (.br (jIs r0 0) (.leaf (0,[(.i (gI r0 0)),(.i (qk .i64 (gI r0 1) 1)),(.i (gI r0 2)),(.i (gI r0 3)),(.i (gI r0 4)),(.r (gR r0 5)),(.i (gI r0 6)),(.i (gI r0 7)),(.i (gI r0 8)),(.b (gB r0 9)),(.i (gI r0 10))])) (.leaf (2,[(.i (gI r0 0)),(.r (gR r0 1)),(.i (gI r0 2)),(.i (gI r0 3)),(.i (gI r0 4)),(.b (gB r0 5)),(.i (gI r0 6))]))) .fail) (.leaf (1,[(.i y2),(.i y3),(.i y4),(.r y5),(.i y6),(.i y7),(.i y8),(.b y9),(.i y10)]))):=by kernel_rfl
theorem q3M(y0:Int)(y1:Int)(y2:Int)(y3:R)(y4:Int)(y5:Int)(y6:Int)(y7:Bool)(y8:Int):vb [.i y0,.i y1,.i y2,.r y3,.i y4,.i y5,.i y6,.b y7,.i y8]=(.br (ilt y1 y0) (let r0:TR:=(qj wH [(.i y1),(.i (qk .i64 y1 1)),(.i y0),(.i y1),(.i y2),(.r y3),(.i y4),(.i y5),(.i y6),(.b y7),(.i y8)])
 .br (okR r0) (.br (jIs r0 0) (.leaf (0,[(.i (gI r0 0)),(.i (qk .i64 (gI r0 1) 1)),(.i (gI r0 2)),(.r (gR r0 3)),(.i (gI r0 4)),(.i (gI r0 5)),(.i (gI r0 6)),(.b (gB r0 7)),(.i (gI r0 8))])) (.leaf (2,[(.i (gI r0 0)),(.r (gR r0 1)),(.i (gI r0 2)),(.i (gI r0 3)),(.i (gI r0 4)),(.b (gB r0 5)),(.i (gI r0 6))]))) .fail) (.leaf (1,[(.i y2),(.r y3),(.i y4),(.i y5),(.i y6),(.b y7),(.i y8)]))):=by kernel_rfl
theorem qhs(x0:R)(x1:Int):qz [.r x0,.i x1]=(let r0:TR:=(qj vr [(.i (qf x0)),(.i 0),(.i x1),(.r x0),(.i 0),(.i 0),(.i 0),(.b false),(.i (qf x0))])
 .br (okR r0) (.br (jIs r0 0) (let r1:TR:=(qj vb [(.i (gI r0 6)),(.i 0),(.i (gI r0 0)),(.r (gR r0 1)),(.i (gI r0 2)),(.i (gI r0 3)),(.i (gI r0 4)),(.b (gB r0 5)),(.i (gI r0 6))])
 .br (okR r1) (.br (jIs r1 0) (.leaf (0,[(.i 0),(.i 0),(.i 0),(.b false),(.i (gI r1 0))])) (.leaf (0,[(.i (gI r1 2)),(.i (gI r1 3)),(.i (gI r1 4)),(.b (gB r1 5)),(.i (gI r1 0))]))) .fail) (.leaf (0,[(.i (gI r0 2)),(.i (gI r0 3)),(.i (gI r0 4)),(.b (gB r0 5)),(.i (gI r0 0))]))) .fail):=by kernel_rfl
theorem qn5(x0:R):q41 [.r x0]=(let r0:TR:=(wg [(.r x0)])
 .br (okR r0) (.br (ine (gI r0 0) 0) (.leaf (0,[(.b false),(.i 0),(.i 0),(.i 0),(.i (gI r0 0))])) (let r1:TR:=(qz [(.r x0),(.i 0)])
 .br (okR r1) (.br (ine (gI r1 4) 0) (.leaf (0,[(.b false),(.i 0),(.i 0),(.i 0),(.i (gI r1 4))])) (.leaf (0,[(.b (gB r1 3)),(.i (gI r1 0)),(.i (gI r1 1)),(.i (gI r1 2)),(.i 0)]))) .fail)) .fail):=by kernel_rfl
theorem qeZ(y0:List UInt8)(y1:List UInt8)(y2:Int)(y3:Int)(y4:R):q1E [.s y0,.s y1,.i y2,.i y3,.r y4]=(.br (ilt y3 y2) (.br (inb y3 (qf y4)) (let r0:TR:=(qM [(.s (cS y4 y3 0))])
 .br (okR r0) (.br (ine (gI r0 0) 0) (.leaf (2,[(.s []),(.i (gI r0 0))])) (.leaf (0,[(.s y0),(.s y1),(.i y2),(.i (qk .i64 y3 1)),(.r y4)]))) .fail) .fail) (.leaf (1,[(.s y0),(.s y1)]))):=by kernel_rfl
theorem qqi(x0:List UInt8)(x1:List UInt8):q6W [.s x0,.s x1]=(let r0:TR:=(qj q1E [(.s x0),(.s x1),(.i (qf [[(.s x0)],[(.s x1)]])),(.i 0),(.r [[(.s x0)],[(.s x1)]])])
 .br (okR r0) (.br (jIs r0 0) (.br (seq (gS r0 1) [48]) (.leaf (0,[(.s []),(.i 10)])) (let r1:TR:=(qA [(.s (gS r0 0)),(.s (gS r0 1)),(.i 0)])
 .br (okR r1) (.br (ine (gI r1 1) 0) (.leaf (0,[(.s []),(.i (gI r1 1))])) (.leaf (0,[(.s (gS r1 0)),(.i 0)]))) .fail)) (.leaf (0,[(.s (gS r0 0)),(.i (gI r0 1))]))) .fail):=by kernel_rfl
theorem qtZ(x0:Int)(x1:Int):q8s [.i x0,.i x1]=(let r0:TR:=(zt [(.i x0)])
 .br (okR r0) (let r1:TR:=(zt [(.i x1)])
 .br (okR r1) (let r2:TR:=(q6W [(.s (gS r0 0)),(.s (gS r1 0))])
 .br (okR r2) (.leaf (0,[(.s (gS r2 0)),(.i (gI r2 1))])) .fail) .fail) .fail):=by kernel_rfl
theorem qol(x0:Int):q0S [.i x0]=(.br (okR (zt [(.i x0)])) (.leaf (0,[(.s (gS (zt [(.i x0)]) 0))])) .fail):=by kernel_rfl
theorem q91(y0:R)(y1:Int)(y2:Int)(y3:R)(y4:R)(y5:R):jY [.r y0,.i y1,.i y2,.r y3,.r y4,.r y5]=(.br (ilt y2 y1) (.br (inb y2 (qf y0)) (.br (inb y2 (qf y3)) (.br (inb y2 (qf y4)) (let r0:TR:=(q8s [(.i (cI y0 y2 0)),(.i 2)])
 .br (okR r0) (let r1:TR:=(q1c [(.s (gS r0 0)),(.s (gS r0 0))])
 .br (okR r1) (let r2:TR:=(q0S [(.i (qB .i64 (cI y4 y2 0) (cI y3 y2 0)))])
 .br (okR r2) (let r3:TR:=(q0S [(.i (qB .i64 (cI y4 y2 1) (cI y3 y2 1)))])
 .br (okR r3) (.br (ile ((qf y5)+(qf [[(.s (gS r2 0)),(.s (gS r3 0)),(.s (gS r1 0))]])) 2932031007402) (.leaf (0,[(.r y0),(.i y1),(.i (qk .i64 y2 1)),(.r y3),(.r y4),(.r (q3F y5 [[(.s (gS r2 0)),(.s (gS r3 0)),(.s (gS r1 0))]]))])) .fail) .fail) .fail) .fail) .fail) .fail) .fail) .fail) (.leaf (1,[(.r y5)]))):=by kernel_rfl
theorem qkp(x0:R)(x1:R)(x2:R)(x3:R):yq [.r x0,.r x1,.r x2,.r x3]=(let r0:TR:=(zq [(.r x0),(.r x1),(.r x2),(.r x3)])
 .br (okR r0) (let r1:TR:=(qj jY [(.r (gR r0 0)),(.i (qf (gR r0 0))),(.i 0),(.r x2),(.r x3),(.r [])])
 .br (okR r1) (.leaf (0,[(.r (gR r1 0))])) .fail) .fail):=by kernel_rfl
theorem qg6(x0:R)(x1:R)(x2:R)(x3:R):zk [.r x0,.r x1,.r x2,.r x3]=(let r0:TR:=(wt [(.r x0),(.r x1),(.r x2),(.r x3)])
 .br (okR r0) (.br (ine (gI r0 0) 0) (.leaf (0,[(.b false),(.i 0),(.i 0),(.i 0),(.i (gI r0 0))])) (let r1:TR:=(zq [(.r x0),(.r x1),(.r x2),(.r x3)])
 .br (okR r1) (let r2:TR:=(qh [(.r (gR r1 0))])
 .br (okR r2) (.br (ilt 0 (qf (gR r2 0))) (.leaf (0,[(.b false),(.i 0),(.i 0),(.i 0),(.i 0)])) (let r3:TR:=(yq [(.r x0),(.r x1),(.r x2),(.r x3)])
 .br (okR r3) (let r4:TR:=(q41 [(.r (gR r3 0))])
 .br (okR r4) (.br (ine (gI r4 4) 0) (.leaf (0,[(.b false),(.i 0),(.i 0),(.i 0),(.i (gI r4 4))])) (.br (not (gB r4 0)) (.leaf (0,[(.b false),(.i 0),(.i 0),(.i 0),(.i (gI r4 4))])) (.leaf (0,[(.b true),(.i (gI r4 1)),(.i (gI r4 2)),(.i (gI r4 3)),(.i 0)])))) .fail) .fail)) .fail) .fail)) .fail):=by kernel_rfl
theorem q0O(y0:Int)(y1:Int)(y2:Int)(y3:Int)(y4:Int)(y5:Int)(y6:Int)(y7:R)(y8:Int)(y9:Int)(y10:Int)(y11:R)(y12:Int)(y13:R)(y14:R):zb [.i y0,.i y1,.i y2,.i y3,.i y4,.i y5,.i y6,.r y7,.i y8,.i y9,.i y10,.r y11,.i y12,.r y13,.r y14]=(.br (ilt y1 y0) (.br (inb y1 (qf y13)) (.br (inb (cI y13 y1 0) (qf y11)) (.br (ile ((qf y14)+(qf [[(.s (cS y11 (cI y13 y1 0) 0)),(.s (cS y11 (cI y13 y1 0) 1)),(.s (cS y11 (cI y13 y1 0) 2))]])) 2932031007402) (.leaf (0,[(.i y0),(.i (qk .i64 y1 1)),(.i y2),(.i y3),(.i y4),(.i y5),(.i y6),(.r y7),(.i y8),(.i y9),(.i y10),(.r y11),(.i y12),(.r y13),(.r (q3F y14 [[(.s (cS y11 (cI y13 y1 0) 0)),(.s (cS y11 (cI y13 y1 0) 1)),(.s (cS y11 (cI y13 y1 0) 2))]]))])) .fail) .fail) .fail) (.leaf (1,[(.i y2),(.i y3),(.i y4),(.i y5),(.i y6),(.r y7),(.i y8),(.i y9),(.i y10),(.r y11),(.i y12),(.r y13),(.r y14)]))):=by kernel_rfl
theorem q3X(y0:Int)(y1:Int)(y2:Int)(y3:Int)(y4:R)(y5:Int):vg [.i y0,.i y1,.i y2,.i y3,.r y4,.i y5]=(.br (ilt y1 (qf y4)) (let r0:TR:=(qj zb [(.i (qf [[(.i y0)],[(.i y1)]])),(.i 0),(.i y0),(.i y1),(.i y2),(.i y3),(.i y1),(.r y4),(.i (qf y4)),(.i y0),(.i y1),(.r y4),(.i y5),(.r [[(.i y0)],[(.i y1)]]),(.r [])])
 .br (okR r0) (let r1:TR:=(qz [(.r (gR r0 12)),(.i (gI r0 10))])
 .br (okR r1) (.br (not (gB r1 3)) (.br (ieq (gI r1 4) 0) (.leaf (2,[(.i 0),(.r [[(.i (gI r0 0))],[(.i (gI r0 1))]])])) (.leaf (0,[(.i (gI r0 0)),(.i (qk .i64 (gI r0 1) 1)),(.i (gI r0 2)),(.i (gI r0 3)),(.r (gR r0 9)),(.i (gI r1 4))]))) (.leaf (0,[(.i (gI r0 0)),(.i (qk .i64 (gI r0 1) 1)),(.i (gI r0 2)),(.i (gI r0 3)),(.r (gR r0 9)),(.i (gI r1 4))]))) .fail) .fail) (.leaf (1,[(.i y2),(.i y3),(.r y4),(.i y5)]))):=by kernel_rfl
theorem q4Q(y0:Int)(y1:Int)(y2:R)(y3:Int):vH [.i y0,.i y1,.r y2,.i y3]=(.br (ilt y1 y0) (let r0:TR:=(qj vg [(.i y1),(.i (qk .i64 y1 1)),(.i y0),(.i y1),(.r y2),(.i y3)])
 .br (okR r0) (.br (jIs r0 0) (.leaf (0,[(.i (gI r0 0)),(.i (qk .i64 (gI r0 1) 1)),(.r (gR r0 2)),(.i (gI r0 3))])) (.leaf (2,[(.i (gI r0 0)),(.r (gR r0 1))]))) .fail) (.leaf (1,[(.r y2),(.i y3)]))):=by kernel_rfl
theorem q0Q(y0:Int)(y1:Int)(y2:Int)(y3:Int)(y4:Int)(y5:Int)(y6:Int)(y7:Int)(y8:R)(y9:Int)(y10:Int)(y11:Int)(y12:Int)(y13:R)(y14:Int)(y15:R)(y16:R):z8 [.i y0,.i y1,.i y2,.i y3,.i y4,.i y5,.i y6,.i y7,.r y8,.i y9,.i y10,.i y11,.i y12,.r y13,.i y14,.r y15,.r y16]=(.br (ilt y1 y0) (.br (inb y1 (qf y15)) (.br (inb (cI y15 y1 0) (qf y13)) (.br (ile ((qf y16)+(qf [[(.s (cS y13 (cI y15 y1 0) 0)),(.s (cS y13 (cI y15 y1 0) 1)),(.s (cS y13 (cI y15 y1 0) 2))]])) 2932031007402) (.leaf (0,[(.i y0),(.i (qk .i64 y1 1)),(.i y2),(.i y3),(.i y4),(.i y5),(.i y6),(.i y7),(.r y8),(.i y9),(.i y10),(.i y11),(.i y12),(.r y13),(.i y14),(.r y15),(.r (q3F y16 [[(.s (cS y13 (cI y15 y1 0) 0)),(.s (cS y13 (cI y15 y1 0) 1)),(.s (cS y13 (cI y15 y1 0) 2))]]))])) .fail) .fail) .fail) (.leaf (1,[(.i y2),(.i y3),(.i y4),(.i y5),(.i y6),(.i y7),(.r y8),(.i y9),(.i y10),(.i y11),(.i y12),(.r y13),(.i y14),(.r y15),(.r y16)]))):=by kernel_rfl
theorem q3J(y0:Int)(y1:Int)(y2:Int)(y3:Int)(y4:Int)(y5:R)(y6:Int):vt [.i y0,.i y1,.i y2,.i y3,.i y4,.r y5,.i y6]=(.br (ilt y2 (qf y5)) (let r0:TR:=(qj z8 [(.i (qf [[(.i y0)],[(.i y1)],[(.i y2)]])),(.i 0),(.i y0),(.i y1),(.i y2),(.i y3),(.i y4),(.i y2),(.r y5),(.i (qf y5)),(.i y0),(.i y1),(.i y2),(.r y5),(.i y6),(.r [[(.i y0)],[(.i y1)],[(.i y2)]]),(.r [])])
 .br (okR r0) (let r1:TR:=(qz [(.r (gR r0 14)),(.i (gI r0 12))])
 .br (okR r1) (.br (not (gB r1 3)) (.br (ieq (gI r1 4) 0) (.leaf (2,[(.i 0),(.r [[(.i (gI r0 0))],[(.i (gI r0 1))],[(.i (gI r0 2))]])])) (.leaf (0,[(.i (gI r0 0)),(.i (gI r0 1)),(.i (qk .i64 (gI r0 2) 1)),(.i (gI r0 3)),(.i (gI r0 4)),(.r (gR r0 11)),(.i (gI r1 4))]))) (.leaf (0,[(.i (gI r0 0)),(.i (gI r0 1)),(.i (qk .i64 (gI r0 2) 1)),(.i (gI r0 3)),(.i (gI r0 4)),(.r (gR r0 11)),(.i (gI r1 4))]))) .fail) .fail) (.leaf (1,[(.i y0),(.i y1),(.i y3),(.i y4),(.r y5),(.i y6)]))):=by kernel_rfl
theorem q3K(y0:Int)(y1:Int)(y2:Int)(y3:Int)(y4:R)(y5:Int):vu [.i y0,.i y1,.i y2,.i y3,.r y4,.i y5]=(.br (ilt y1 (qf y4)) (let r0:TR:=(qj vt [(.i y0),(.i y1),(.i (qk .i64 y1 1)),(.i y2),(.i y3),(.r y4),(.i y5)])
 .br (okR r0) (.br (jIs r0 0) (.leaf (0,[(.i (gI r0 0)),(.i (qk .i64 (gI r0 1) 1)),(.i (gI r0 2)),(.i (gI r0 3)),(.r (gR r0 4)),(.i (gI r0 5))])) (.leaf (2,[(.i (gI r0 0)),(.r (gR r0 1))]))) .fail) (.leaf (1,[(.i y2),(.i y3),(.r y4),(.i y5)]))):=by kernel_rfl
theorem q49(y0:Int)(y1:Int)(y2:R)(y3:Int):vl [.i y0,.i y1,.r y2,.i y3]=(.br (ilt y1 y0) (let r0:TR:=(qj vu [(.i y1),(.i (qk .i64 y1 1)),(.i y0),(.i y1),(.r y2),(.i y3)])
 .br (okR r0) (.br (jIs r0 0) (.leaf (0,[(.i (gI r0 0)),(.i (qk .i64 (gI r0 1) 1)),(.r (gR r0 2)),(.i (gI r0 3))])) (.leaf (2,[(.i (gI r0 0)),(.r (gR r0 1))]))) .fail) (.leaf (1,[(.i y3)]))):=by kernel_rfl
theorem qe3(x0:R):jH [.r x0]=(let r0:TR:=(wg [(.r x0)])
 .br (okR r0) (.br (ine (gI r0 0) 0) (.leaf (0,[(.r []),(.i (gI r0 0))])) (let r1:TR:=(qj vH [(.i (qf x0)),(.i 0),(.r x0),(.i 0)])
 .br (okR r1) (.br (jIs r1 0) (let r2:TR:=(qj vl [(.i (qf (gR r1 0))),(.i 0),(.r (gR r1 0)),(.i (gI r1 1))])
 .br (okR r2) (.br (jIs r2 0) (.leaf (0,[(.r []),(.i (gI r2 0))])) (.leaf (0,[(.r (gR r2 1)),(.i (gI r2 0))]))) .fail) (.leaf (0,[(.r (gR r1 1)),(.i (gI r1 0))]))) .fail)) .fail):=by kernel_rfl
theorem qjS(x0:R)(x1:R)(x2:R)(x3:R):uI [.r x0,.r x1,.r x2,.r x3]=(let r0:TR:=(wt [(.r x0),(.r x1),(.r x2),(.r x3)])
 .br (okR r0) (.br (ine (gI r0 0) 0) (.leaf (0,[(.r []),(.i (gI r0 0))])) (let r1:TR:=(zq [(.r x0),(.r x1),(.r x2),(.r x3)])
 .br (okR r1) (let r2:TR:=(qh [(.r (gR r1 0))])
 .br (okR r2) (.br (ilt 0 (qf (gR r2 0))) (.br (qaF 1 (qf (gR r2 0))) (.br (qaF 0 1) (.leaf (0,[(.r (quy (gR r2 0) 0 1)),(.i 0)])) .fail) .fail) (let r3:TR:=(yq [(.r x0),(.r x1),(.r x2),(.r x3)])
 .br (okR r3) (let r4:TR:=(jH [(.r (gR r3 0))])
 .br (okR r4) (.leaf (0,[(.r (gR r4 0)),(.i (gI r4 1))])) .fail) .fail)) .fail) .fail)) .fail):=by kernel_rfl
theorem qhW(x0:Int):wE [.i x0]=(.br (ile (-100000) x0) (.leaf (0,[(.b (ile x0 100000))])) (.leaf (0,[(.b false)]))):=by kernel_rfl
theorem qjc(x0:Int)(x1:Int):ub [.i x0,.i x1]=(.br (okR (wE [(.i x0)])) (.br (not (gB (wE [(.i x0)]) 0)) (.leaf (0,[(.i 2)])) (.br (okR (wE [(.i x1)])) (.br (not (gB (wE [(.i x1)]) 0)) (.leaf (0,[(.i 2)])) (.br (ilt x1 x0) (.leaf (0,[(.i 9)])) (.leaf (0,[(.i 0)])))) .fail)) .fail):=by kernel_rfl
theorem q3T(y0:R)(y1:Int)(y2:Int):vk [.r y0,.i y1,.i y2]=(.br (ilt y2 y1) (.br (inb y2 (qf y0)) (let r0:TR:=(ub [(.i (cI y0 y2 0)),(.i (cI y0 y2 1))])
 .br (okR r0) (.br (ine (gI r0 0) 0) (.leaf (2,[(.i (gI r0 0))])) (.br (ilt (cI y0 y2 0) 1) (.leaf (2,[(.i 2)])) (.leaf (0,[(.r y0),(.i y1),(.i (qk .i64 y2 1))])))) .fail) .fail) (.leaf (1,[]))):=by kernel_rfl
theorem qck(x0:R):zm [.r x0]=(.br (ieq (qf x0) 0) (.leaf (0,[(.i 13)])) (.br (ilt 16 (qf x0)) (.leaf (0,[(.i 5)])) (let r0:TR:=(qj vk [(.r x0),(.i (qf x0)),(.i 0)])
 .br (okR r0) (.br (jIs r0 0) (.leaf (0,[(.i 0)])) (.leaf (0,[(.i (gI r0 0))]))) .fail))):=by kernel_rfl
theorem q6O(y0:R)(y1:Int)(y2:Int)(y3:Int)(y4:Int)(y5:Int)(y6:Int):vX [.r y0,.i y1,.i y2,.i y3,.i y4,.i y5,.i y6]=(.br (ilt y2 y1) (.br (inb y2 (qf y0)) (.leaf (0,[(.r y0),(.i y1),(.i (qk .i64 y2 1)),(.i y3),(.i y4),(.i (qk .i64 y5 (cI y0 y2 0))),(.i (qk .i64 y6 (cI y0 y2 1)))])) .fail) (.leaf (1,[(.i y3),(.i y4),(.i y5),(.i y6)]))):=by kernel_rfl
theorem qhF(x0:R):zv [.r x0]=(let r0:TR:=(zm [(.r x0)])
 .br (okR r0) (.br (ine (gI r0 0) 0) (.leaf (0,[(.i 0),(.i 0),(.i (gI r0 0))])) (let r1:TR:=(qj vX [(.r x0),(.i (qf x0)),(.i 0),(.i 0),(.i 0),(.i 0),(.i 0)])
 .br (okR r1) (.leaf (0,[(.i (gI r1 2)),(.i (gI r1 3)),(.i 0)])) .fail)) .fail):=by kernel_rfl
theorem qgH(y0:Int)(y1:Int)(y2:R)(y3:R)(y4:R):q2L [.i y0,.i y1,.r y2,.r y3,.r y4]=(.br (ilt y1 y0) (.br (inb y1 (qf y2)) (.br (ile ((qf y3)+(qf [[(.i (cI y2 y1 0)),(.i 0),(.i 100),(.i 104),(.i 4),(.i 1),(.b false)]])) 2513169434916) (.br (ile ((qf y4)+(qf [[(.i (cI y2 y1 0)),(.i 0),(.i 90),(.i 92),(.i 4),(.i 1),(.b true)]])) 2513169434916) (.leaf (0,[(.i y0),(.i (qk .i64 y1 1)),(.r y2),(.r (q3F y3 [[(.i (cI y2 y1 0)),(.i 0),(.i 100),(.i 104),(.i 4),(.i 1),(.b false)]])),(.r (q3F y4 [[(.i (cI y2 y1 0)),(.i 0),(.i 90),(.i 92),(.i 4),(.i 1),(.b true)]]))])) .fail) .fail) .fail) (.leaf (1,[(.r y3),(.r y4)]))):=by kernel_rfl
theorem qrB  : q8J []=(let r0:TR:=(qj q2L [(.i (qf [[(.i 0)],[(.i 1000)]])),(.i 0),(.r [[(.i 0)],[(.i 1000)]]),(.r []),(.r [])])
 .br (okR r0) (.leaf (0,[(.r (gR r0 0)),(.r (gR r0 1))])) .fail):=by kernel_rfl
theorem qjM(x0:Int):uL [.i x0]=(.leaf (0,[(.r [[(.i 2),(.i 0),(.i 100)],[(.i 998),(.i 0),(.i 100)]]),(.r [[(.i (qB .i64 0 x0)),(.i 0),(.i 92)],[(.i (qk .i64 1000 x0)),(.i 0),(.i 92)]])])):=by kernel_rfl
theorem qo1  : qx []=(let r0:TR:=(q8J [])
 .br (okR r0) (let r1:TR:=(zZ [(.r (gR r0 0)),(.r (gR r0 1))])
 .br (okR r1) (.br (okR r0) (let r2:TR:=(vQ [(.r (gR r0 0)),(.r (gR r0 1))])
 .br (okR r2) (.br (okR r0) (let r3:TR:=(uL [(.i 2)])
 .br (okR r3) (let r4:TR:=(zw [(.r (gR r0 0)),(.r (gR r0 1)),(.r (gR r3 0)),(.r (gR r3 1))])
 .br (okR r4) (.br (okR r0) (let r5:TR:=(uL [(.i 3)])
 .br (okR r5) (let r6:TR:=(zw [(.r (gR r0 0)),(.r (gR r0 1)),(.r (gR r5 0)),(.r (gR r5 1))])
 .br (okR r6) (.br (okR r0) (.br (okR r5) (let r7:TR:=(uI [(.r (gR r0 0)),(.r (gR r0 1)),(.r (gR r5 0)),(.r (gR r5 1))])
 .br (okR r7) (.br (okR r0) (.br (okR r3) (let r8:TR:=(zk [(.r (gR r0 0)),(.r (gR r0 1)),(.r (gR r3 0)),(.r (gR r3 1))])
 .br (okR r8) (.br (okR r0) (.br (okR r5) (let r9:TR:=(zk [(.r (gR r0 0)),(.r (gR r0 1)),(.r (gR r5 0)),(.r (gR r5 1))])
 .br (okR r9) (let r10:TR:=(zv [(.r [[(.i 10),(.i 12)],[(.i 20),(.i 21)]])])
 .br (okR r10) (.br (ine (qk .i64 (qk .i64 (qk .i64 (qk .i64 (qk .i64 (qk .i64 (qk .i64 (gI r1 1) (gI r2 1)) (gI r4 1)) (gI r6 1)) (gI r7 1)) (gI r8 4)) (gI r9 4)) (gI r10 2)) 0) (.leaf (0,[(.b false)])) (.br (not (gB r2 0)) (.leaf (0,[(.b false)])) (.br (not (gB r8 0)) (.leaf (0,[(.b false)])) (.br (gB r9 0) (.leaf (0,[(.b false)])) (.br (not (qvg (ieq (gI r10 0) 30) (qvg (ieq (gI r10 1) 33) true))) (.leaf (0,[(.b false)])) (let r11:TR:=(qF [(.r (gR r1 0)),(.r [[(.i 0)],[(.i 0)]])])
 .br (okR r11) (.br (gB r11 0) (.br (ieq (qf (gR r4 0)) 0) (let r12:TR:=(qF [(.r (gR r6 0)),(.r [[(.i 0)],[(.i 1)]])])
 .br (okR r12) (.br (gB r12 0) (let r13:TR:=(qF [(.r (gR r7 0)),(.r [[(.i 0)],[(.i 1)]])])
 .br (okR r13) (.leaf (0,[(.b (gB r13 0))])) .fail) (.leaf (0,[(.b false)]))) .fail) (.leaf (0,[(.b false)]))) (.leaf (0,[(.b false)]))) .fail)))))) .fail) .fail) .fail) .fail) .fail) .fail) .fail) .fail) .fail) .fail) .fail) .fail) .fail) .fail) .fail) .fail) .fail) .fail) .fail) .fail):=by kernel_rfl
theorem qtN(x0:Int):q4R [.i x0]=(.br (ile (-100000) x0) (.leaf (0,[(.b (ile x0 100000))])) (.leaf (0,[(.b false)]))):=by kernel_rfl
theorem qo2(x0:Int)(x1:Int):yS [.i x0,.i x1]=(.br (okR (q4R [(.i x0)])) (.br (gB (q4R [(.i x0)]) 0) (.br (okR (q4R [(.i x1)])) (.leaf (0,[(.b (gB (q4R [(.i x1)]) 0))])) .fail) (.leaf (0,[(.b false)]))) .fail):=by kernel_rfl
theorem qqn(x0:Int):jO [.i x0]=(.br (ile 1 x0) (.leaf (0,[(.b (ile x0 100000))])) (.leaf (0,[(.b false)]))):=by kernel_rfl
theorem qo9(x0:Int)(x1:Int)(x2:Int)(x3:Int)(x4:Int)(x5:Int)(x6:Bool):q2U [.i x0,.i x1,.i x2,.i x3,.i x4,.i x5,.b x6]=(.br (okR (yS [(.i x0),(.i x1)])) (.br (not (gB (yS [(.i x0),(.i x1)]) 0)) (.leaf (0,[(.i 2)])) (.br (okR (jO [(.i x2)])) (.br (not (gB (jO [(.i x2)]) 0)) (.leaf (0,[(.i 2)])) (.br (okR (jO [(.i x3)])) (.br (not (gB (jO [(.i x3)]) 0)) (.leaf (0,[(.i 2)])) (.br (ilt x3 x2) (.leaf (0,[(.i 9)])) (.br (ilt x4 0) (.leaf (0,[(.i 2)])) (.br (ilt 100000 x4) (.leaf (0,[(.i 2)])) (.br (not x6) (.br (ile x2 x4) (.leaf (0,[(.i 2)])) (.br (ilt x5 0) (.leaf (0,[(.i 1)])) (.br (ilt 2 x5) (.leaf (0,[(.i 1)])) (.leaf (0,[(.i 0)]))))) (.br (ilt x5 0) (.leaf (0,[(.i 1)])) (.br (ilt 2 x5) (.leaf (0,[(.i 1)])) (.leaf (0,[(.i 0)]))))))))) .fail)) .fail)) .fail):=by kernel_rfl
theorem qqL(x0:Int)(x1:Int)(x2:Int)(x3:Int)(x4:Int)(x5:Int)(x6:Bool)(x7:Int)(x8:Int)(x9:Int)(x10:Int)(x11:Int)(x12:Int)(x13:Bool):q4P [.i x0,.i x1,.i x2,.i x3,.i x4,.i x5,.b x6,.i x7,.i x8,.i x9,.i x10,.i x11,.i x12,.b x13]=(let r0:TR:=(q2U [(.i x0),(.i x1),(.i x2),(.i x3),(.i x4),(.i x5),(.b x6)])
 .br (okR r0) (.br (ine (gI r0 0) 0) (.leaf (0,[(.i (gI r0 0))])) (let r1:TR:=(q2U [(.i x7),(.i x8),(.i x9),(.i x10),(.i x11),(.i x12),(.b x13)])
 .br (okR r1) (.br (ine (gI r1 0) 0) (.leaf (0,[(.i (gI r1 0))])) (.br (ine x5 1) (.leaf (0,[(.i 14)])) (.br (ine x12 1) (.leaf (0,[(.i 14)])) (.br (not (qvg (ieq x0 x7) (qvg (ieq x1 x8) true))) (.leaf (0,[(.i 16)])) (.br (beq x6 x13) (.leaf (0,[(.i 16)])) (.leaf (0,[(.i 0)]))))))) .fail)) .fail):=by kernel_rfl
theorem qbX(y0:Int)(y1:R)(y2:R):q1z [.i y0,.r y1,.r y2]=(.br (ilt y0 (qf y1)) (.br (inb y0 (qf y1)) (.br (inb y0 (qf y2)) (let r0:TR:=(q4P [(.i (cI y1 y0 0)),(.i (cI y1 y0 1)),(.i (cI y1 y0 2)),(.i (cI y1 y0 3)),(.i (cI y1 y0 4)),(.i (cI y1 y0 5)),(.b (cB y1 y0 6)),(.i (cI y2 y0 0)),(.i (cI y2 y0 1)),(.i (cI y2 y0 2)),(.i (cI y2 y0 3)),(.i (cI y2 y0 4)),(.i (cI y2 y0 5)),(.b (cB y2 y0 6))])
 .br (okR r0) (.br (ine (gI r0 0) 0) (.leaf (2,[(.i (gI r0 0))])) (.leaf (0,[(.i (qk .i64 y0 1)),(.r y1),(.r y2)]))) .fail) .fail) .fail) (.leaf (1,[]))):=by kernel_rfl
theorem qot(x0:R)(x1:R):wU [.r x0,.r x1]=(.br (ieq (qf x0) 0) (.leaf (0,[(.i 13)])) (.br (ilt 16 (qf x0)) (.leaf (0,[(.i 5)])) (.br (ine (qf x1) (qf x0)) (.leaf (0,[(.i 8)])) (let r0:TR:=(qj q1z [(.i 0),(.r x0),(.r x1)])
 .br (okR r0) (.br (jIs r0 0) (.leaf (0,[(.i 0)])) (.leaf (0,[(.i (gI r0 0))]))) .fail)))):=by kernel_rfl
theorem qob(x0:Int)(x1:Int)(x2:Int)(x3:Int)(x4:Int)(x5:Int)(x6:Bool):kh [.i x0,.i x1,.i x2,.i x3,.i x4,.i x5,.b x6]=(.br (beq (ieq x5 2) x6) (.leaf (0,[(.i (qB .i64 x2 x4))])) (.leaf (0,[(.i (qk .i64 x3 x4))]))):=by kernel_rfl
theorem qgx(y0:Int)(y1:R)(y2:R)(y3:R):q2N [.i y0,.r y1,.r y2,.r y3]=(.br (ilt y0 (qf y1)) (.br (inb y0 (qf y1)) (let r0:TR:=(kh [(.i (cI y1 y0 0)),(.i (cI y1 y0 1)),(.i (cI y1 y0 2)),(.i (cI y1 y0 3)),(.i (cI y1 y0 4)),(.i (cI y1 y0 5)),(.b (cB y1 y0 6))])
 .br (okR r0) (.br (inb y0 (qf y2)) (let r1:TR:=(kh [(.i (cI y2 y0 0)),(.i (cI y2 y0 1)),(.i (cI y2 y0 2)),(.i (cI y2 y0 3)),(.i (cI y2 y0 4)),(.i (cI y2 y0 5)),(.b (cB y2 y0 6))])
 .br (okR r1) (.br (inb y0 (qf y1)) (.br (cB y1 y0 6) (.br (ile ((qf y3)+(qf [[(.i (qB .i64 0 (qB .i64 (gI r0 0) (gI r1 0))))]])) 17592186044416) (.leaf (0,[(.i (qk .i64 y0 1)),(.r y1),(.r y2),(.r (q3F y3 [[(.i (qB .i64 0 (qB .i64 (gI r0 0) (gI r1 0))))]]))])) .fail) (.br (ile ((qf y3)+(qf [[(.i (qB .i64 (gI r0 0) (gI r1 0)))]])) 17592186044416) (.leaf (0,[(.i (qk .i64 y0 1)),(.r y1),(.r y2),(.r (q3F y3 [[(.i (qB .i64 (gI r0 0) (gI r1 0)))]]))])) .fail)) .fail) .fail) .fail) .fail) .fail) (.leaf (1,[(.r y3)]))):=by kernel_rfl
theorem qr5(x0:R)(x1:R):q2F [.r x0,.r x1]=(let r0:TR:=(qj q2N [(.i 0),(.r x0),(.r x1),(.r [])])
 .br (okR r0) (.leaf (0,[(.r (gR r0 0))])) .fail):=by kernel_rfl
theorem qlh(x0:R)(x1:R):q2k [.r x0,.r x1]=(let r0:TR:=(wU [(.r x0),(.r x1)])
 .br (okR r0) (.br (ine (gI r0 0) 0) (.leaf (0,[(.r []),(.i (gI r0 0))])) (let r1:TR:=(q2F [(.r x0),(.r x1)])
 .br (okR r1) (.leaf (0,[(.r (gR r1 0)),(.i 0)])) .fail)) .fail):=by kernel_rfl
theorem q9A(y0:R)(y1:Int):kz [.r y0,.i y1]=(.br (ilt y1 (qf y0)) (.br (inb y1 (qf y0)) (.br (ilt (cI y0 y1 0) 0) (.leaf (2,[(.b false)])) (.leaf (0,[(.r y0),(.i (qk .i64 y1 1))]))) .fail) (.leaf (1,[]))):=by kernel_rfl
theorem qqa(x0:R)(x1:R):q6L [.r x0,.r x1]=(let r0:TR:=(q2F [(.r x0),(.r x1)])
 .br (okR r0) (let r1:TR:=(qj kz [(.r (gR r0 0)),(.i 0)])
 .br (okR r1) (.br (jIs r1 0) (.leaf (0,[(.b true)])) (.leaf (0,[(.b (gB r1 0))]))) .fail) .fail):=by kernel_rfl
theorem qpK(x0:R)(x1:R):q6K [.r x0,.r x1]=(let r0:TR:=(wU [(.r x0),(.r x1)])
 .br (okR r0) (.br (ine (gI r0 0) 0) (.leaf (0,[(.b false),(.i (gI r0 0))])) (let r1:TR:=(q6L [(.r x0),(.r x1)])
 .br (okR r1) (.leaf (0,[(.b (gB r1 0)),(.i 0)])) .fail)) .fail):=by kernel_rfl
theorem qcA(x0:R)(x1:R):jd [.r x0,.r x1]=(.br (ilt 40 (qf x0)) (let r0:TR:=(qx [])
 .br (okR r0) (.leaf (0,[(.b (gB r0 0))])) .fail) (.br (ilt 40 (qf x1)) (let r0:TR:=(qx [])
 .br (okR r0) (.leaf (0,[(.b (gB r0 0))])) .fail) (let r0:TR:=(zZ [(.r x0),(.r x1)])
 .br (okR r0) (let r1:TR:=(q2k [(.r x0),(.r x1)])
 .br (okR r1) (let r2:TR:=(vQ [(.r x0),(.r x1)])
 .br (okR r2) (let r3:TR:=(q6K [(.r x0),(.r x1)])
 .br (okR r3) (let r4:TR:=(qx [])
 .br (okR r4) (.br (gB r4 0) (let r5:TR:=(zM [(.r x0),(.r x1)])
 .br (okR r5) (let r6:TR:=(wU [(.r x0),(.r x1)])
 .br (okR r6) (.br (ieq (gI r5 0) (gI r6 0)) (let r7:TR:=(qF [(.r (gR r0 0)),(.r (gR r1 0))])
 .br (okR r7) (.br (gB r7 0) (.br (ieq (gI r0 1) (gI r1 1)) (.br (beq (gB r2 0) (gB r3 0)) (.leaf (0,[(.b (ieq (gI r2 1) (gI r3 1)))])) (.leaf (0,[(.b false)]))) (.leaf (0,[(.b false)]))) (.leaf (0,[(.b false)]))) .fail) (.leaf (0,[(.b false)]))) .fail) .fail) (.leaf (0,[(.b false)]))) .fail) .fail) .fail) .fail) .fail))):=by kernel_rfl
theorem qpR(x0:Int)(x1:Int)(x2:Int):q2y [.i x0,.i x1,.i x2]=(.br (okR (yS [(.i x0),(.i x1)])) (.br (not (gB (yS [(.i x0),(.i x1)]) 0)) (.leaf (0,[(.i 2)])) (.br (okR (jO [(.i x2)])) (.br (not (gB (jO [(.i x2)]) 0)) (.leaf (0,[(.i 2)])) (.leaf (0,[(.i 0)]))) .fail)) .fail):=by kernel_rfl
theorem qmq(x0:Int)(x1:Int)(x2:Int)(x3:Int)(x4:Int)(x5:Int)(x6:Bool)(x7:Int):kP [.i x0,.i x1,.i x2,.i x3,.i x4,.i x5,.b x6,.i x7]=(.br (ile x2 x7) (.leaf (0,[(.b (ile x7 x3))])) (.leaf (0,[(.b false)]))):=by kernel_rfl
theorem qbC(y0:Int)(y1:R)(y2:R)(y3:R)(y4:R):q1C [.i y0,.r y1,.r y2,.r y3,.r y4]=(.br (ilt y0 (qf y3)) (.br (inb y0 (qf y3)) (let r0:TR:=(q2y [(.i (cI y3 y0 0)),(.i (cI y3 y0 1)),(.i (cI y3 y0 2))])
 .br (okR r0) (.br (ine (gI r0 0) 0) (.leaf (2,[(.i (gI r0 0))])) (.br (inb y0 (qf y4)) (let r1:TR:=(q2y [(.i (cI y4 y0 0)),(.i (cI y4 y0 1)),(.i (cI y4 y0 2))])
 .br (okR r1) (.br (ine (gI r1 0) 0) (.leaf (2,[(.i (gI r1 0))])) (.br (inb y0 (qf y1)) (.br (inb y0 (qf y3)) (let r2:TR:=(kP [(.i (cI y1 y0 0)),(.i (cI y1 y0 1)),(.i (cI y1 y0 2)),(.i (cI y1 y0 3)),(.i (cI y1 y0 4)),(.i (cI y1 y0 5)),(.b (cB y1 y0 6)),(.i (cI y3 y0 2))])
 .br (okR r2) (.br (not (gB r2 0)) (.leaf (2,[(.i 14)])) (.br (inb y0 (qf y2)) (.br (inb y0 (qf y4)) (let r3:TR:=(kP [(.i (cI y2 y0 0)),(.i (cI y2 y0 1)),(.i (cI y2 y0 2)),(.i (cI y2 y0 3)),(.i (cI y2 y0 4)),(.i (cI y2 y0 5)),(.b (cB y2 y0 6)),(.i (cI y4 y0 2))])
 .br (okR r3) (.br (not (gB r3 0)) (.leaf (2,[(.i 14)])) (.leaf (0,[(.i (qk .i64 y0 1)),(.r y1),(.r y2),(.r y3),(.r y4)]))) .fail) .fail) .fail)) .fail) .fail) .fail)) .fail) .fail)) .fail) .fail) (.leaf (1,[]))):=by kernel_rfl
theorem qnV(x0:R)(x1:R)(x2:R)(x3:R):jC [.r x0,.r x1,.r x2,.r x3]=(let r0:TR:=(wU [(.r x0),(.r x1)])
 .br (okR r0) (.br (ine (gI r0 0) 0) (.leaf (0,[(.i (gI r0 0))])) (.br (ine (qf x2) (qf x0)) (.leaf (0,[(.i 8)])) (.br (ine (qf x3) (qf x1)) (.leaf (0,[(.i 8)])) (let r1:TR:=(qj q1C [(.i 0),(.r x0),(.r x1),(.r x2),(.r x3)])
 .br (okR r1) (.br (jIs r1 0) (.leaf (0,[(.i 0)])) (.leaf (0,[(.i (gI r1 0))]))) .fail)))) .fail):=by kernel_rfl
theorem qsC(x0:R)(x1:R)(x2:R)(x3:R):q9u [.r x0,.r x1,.r x2,.r x3]=(.br (ilt 40 (qf x0)) (.leaf (0,[(.b false)])) (.br (ilt 40 (qf x1)) (.leaf (0,[(.b false)])) (.br (ilt 40 (qf x2)) (.leaf (0,[(.b false)])) (.br (ilt 40 (qf x3)) (.leaf (0,[(.b false)])) (.br (ile (qf x0) 4) (.leaf (0,[(.b true)])) (let r0:TR:=(jC [(.r x0),(.r x1),(.r x2),(.r x3)])
 .br (okR r0) (.leaf (0,[(.b (ine (gI r0 0) 0))])) .fail)))))):=by kernel_rfl
theorem qsq(x0:R)(x1:R)(x2:R)(x3:R):q4B [.r x0,.r x1,.r x2,.r x3]=(let r0:TR:=(q9u [(.r x0),(.r x1),(.r x2),(.r x3)])
 .br (okR r0) (.leaf (0,[(.b (gB r0 0))])) .fail):=by kernel_rfl
theorem qqh(x0:R)(x1:R)(x2:R)(x3:R)(x4:Int):q72 [.r x0,.r x1,.r x2,.r x3,.i x4]=(.br (inb x4 (qf x0)) (.br (cB x0 x4 6) (.br (inb x4 (qf x3)) (.br (inb x4 (qf x2)) (.leaf (0,[(.i (qB .i64 (cI x3 x4 2) (cI x2 x4 2)))])) .fail) .fail) (.br (inb x4 (qf x2)) (.br (inb x4 (qf x3)) (.leaf (0,[(.i (qB .i64 (cI x2 x4 2) (cI x3 x4 2)))])) .fail) .fail)) .fail):=by kernel_rfl
theorem qoc(x0:Int)(x1:Int)(x2:Int)(x3:Int):q7W [.i x0,.i x1,.i x2,.i x3]=(.leaf (0,[(.i (qB .i64 x0 x2)),(.i (qB .i64 x1 x3))])):=by kernel_rfl
theorem qoh(x0:Int)(x1:Int)(x2:Int)(x3:Int):q8d [.i x0,.i x1,.i x2,.i x3]=(.leaf (0,[(.i (qk .i64 (jF .i64 x0 x2) (jF .i64 x1 x3)))])):=by kernel_rfl
theorem qsB(x0:Int)(x1:Int)(x2:Int)(x3:Int):q9g [.i x0,.i x1,.i x2,.i x3]=(let r0:TR:=(q7W [(.i x0),(.i x1),(.i x2),(.i x3)])
 .br (okR r0) (.br (okR r0) (let r1:TR:=(q8d [(.i (gI r0 0)),(.i (gI r0 1)),(.i (gI r0 0)),(.i (gI r0 1))])
 .br (okR r1) (.leaf (0,[(.i (gI r1 0))])) .fail) .fail) .fail):=by kernel_rfl
theorem qm6(x0:R)(x1:R)(x2:R)(x3:R)(x4:Int):q1D [.r x0,.r x1,.r x2,.r x3,.i x4]=(let r0:TR:=(q72 [(.r x0),(.r x1),(.r x2),(.r x3),(.i x4)])
 .br (okR r0) (.br (ile 0 (gI r0 0)) (.br (inb x4 (qf x2)) (.br (inb x4 (qf x3)) (let r1:TR:=(q9g [(.i (cI x2 x4 0)),(.i (cI x2 x4 1)),(.i (cI x3 x4 0)),(.i (cI x3 x4 1))])
 .br (okR r1) (.leaf (0,[(.b (ile (jF .i64 4 (gI r1 0)) (jF .i64 (gI r0 0) (gI r0 0))))])) .fail) .fail) .fail) (.leaf (0,[(.b false)]))) .fail):=by kernel_rfl
theorem qav(y0:Int)(y1:R)(y2:R)(y3:R)(y4:R)(y5:R):ug [.i y0,.r y1,.r y2,.r y3,.r y4,.r y5]=(.br (ilt y0 (qf y3)) (let r0:TR:=(q1D [(.r y1),(.r y2),(.r y3),(.r y4),(.i y0)])
 .br (okR r0) (.br (not (gB r0 0)) (.br (ile ((qf y5)+(qf [[(.i y0)]])) 17592186044416) (.leaf (0,[(.i (qk .i64 y0 1)),(.r y1),(.r y2),(.r y3),(.r y4),(.r (q3F y5 [[(.i y0)]]))])) .fail) (.leaf (0,[(.i (qk .i64 y0 1)),(.r y1),(.r y2),(.r y3),(.r y4),(.r y5)]))) .fail) (.leaf (1,[(.r y5)]))):=by kernel_rfl
theorem qls(x0:R)(x1:R)(x2:R)(x3:R):q2p [.r x0,.r x1,.r x2,.r x3]=(let r0:TR:=(jC [(.r x0),(.r x1),(.r x2),(.r x3)])
 .br (okR r0) (.br (ine (gI r0 0) 0) (.leaf (0,[(.r []),(.i (gI r0 0))])) (let r1:TR:=(qj ug [(.i 0),(.r x0),(.r x1),(.r x2),(.r x3),(.r [])])
 .br (okR r1) (.leaf (0,[(.r (gR r1 0)),(.i 0)])) .fail)) .fail):=by kernel_rfl
theorem qcZ(x0:R)(x1:R)(x2:R)(x3:R):j8 [.r x0,.r x1,.r x2,.r x3]=(let r0:TR:=(q4B [(.r x0),(.r x1),(.r x2),(.r x3)])
 .br (okR r0) (.br (not (gB r0 0)) (let r1:TR:=(qx [])
 .br (okR r1) (.leaf (0,[(.b (gB r1 0))])) .fail) (let r1:TR:=(zw [(.r x0),(.r x1),(.r x2),(.r x3)])
 .br (okR r1) (let r2:TR:=(q2p [(.r x0),(.r x1),(.r x2),(.r x3)])
 .br (okR r2) (let r3:TR:=(qx [])
 .br (okR r3) (.br (gB r3 0) (let r4:TR:=(qF [(.r (gR r1 0)),(.r (gR r2 0))])
 .br (okR r4) (.br (gB r4 0) (.leaf (0,[(.b (ieq (gI r1 1) (gI r2 1)))])) (.leaf (0,[(.b false)]))) .fail) (.leaf (0,[(.b false)]))) .fail) .fail) .fail)) .fail):=by kernel_rfl
theorem qoo(x0:R)(x1:R)(x2:R)(x3:R):q54 [.r x0,.r x1,.r x2,.r x3]=(let r0:TR:=(q4B [(.r x0),(.r x1),(.r x2),(.r x3)])
 .br (okR r0) (.br (gB r0 0) (let r1:TR:=(jC [(.r x0),(.r x1),(.r x2),(.r x3)])
 .br (okR r1) (.leaf (0,[(.b (ieq (gI r1 0) 0))])) .fail) (.leaf (0,[(.b false)]))) .fail):=by kernel_rfl
theorem qge(x0:Int)(x1:Int)(x2:Int)(x3:R):v6 [.i x0,.i x1,.i x2,.r x3]=(.br (inb x0 (qf x3)) (.br (ilt x1 (cI x3 x0 0)) (.leaf (0,[(.b true),(.i (qk .i64 x2 x1)),(.r x3)])) (.br (inb x0 (qf x3)) (.leaf (0,[(.b (ilt (cI x3 x0 1) x1)),(.i (qk .i64 x2 x1)),(.r x3)])) .fail)) .fail):=by kernel_rfl
theorem vE(y0:R)(y1:Int)(y2:Int)(y3:Int)(y4:R)(y5:R):qw [.r y0,.i y1,.i y2,.i y3,.r y4,.r y5]=(.br (ilt y2 y1) (.br (inb y2 (qf y0)) (let r0:TR:=(v6 [(.i y2),(.i (cI y0 y2 0)),(.i y3),(.r y4)])
 .br (okR r0) (.br (gB r0 0) (.br (ile ((qf y5)+(qf [[(.i y2)]])) 17592186044416) (.leaf (0,[(.r y0),(.i y1),(.i (qk .i64 y2 1)),(.i (gI r0 1)),(.r (gR r0 2)),(.r (q3F y5 [[(.i y2)]]))])) .fail) (.leaf (0,[(.r y0),(.i y1),(.i (qk .i64 y2 1)),(.i (gI r0 1)),(.r (gR r0 2)),(.r y5)]))) .fail) .fail) (.leaf (1,[(.i y3),(.r y4),(.r y5)]))):=by kernel_rfl
theorem q1v(x0:R)(x1:Int)(x2:R):qG [.r x0,.i x1,.r x2]=(let r0:TR:=(qj qw [(.r x0),(.i (qf x0)),(.i 0),(.i x1),(.r x2),(.r [])])
 .br (okR r0) (.leaf (0,[(.r (gR r0 2)),(.i (gI r0 0)),(.r (gR r0 1))])) .fail):=by kernel_rfl
theorem qjq(x0:R)(x1:R):z7 [.r x0,.r x1]=(let r0:TR:=(zm [(.r x0)])
 .br (okR r0) (.br (ine (gI r0 0) 0) (.leaf (0,[(.i 0),(.i (gI r0 0))])) (.br (ine (qf x1) (qf x0)) (.leaf (0,[(.i 0),(.i 8)])) (let r1:TR:=(qG [(.r x1),(.i 0),(.r x0)])
 .br (okR r1) (.br (ilt 0 (qf (gR r1 0))) (.leaf (0,[(.i 0),(.i 14)])) (.leaf (0,[(.i (gI r1 1)),(.i 0)]))) .fail))) .fail):=by kernel_rfl
theorem qrH(x0:Int)(x1:Int)(x2:Int):q1f [.i x0,.i x1,.i x2]=(.br (ile x0 x2) (.leaf (0,[(.b (ile x2 x1))])) (.leaf (0,[(.b false)]))):=by kernel_rfl
theorem qtr(x0:Int):q4K [.i x0]=(.br (ile (-100000) x0) (.leaf (0,[(.b (ile x0 100000))])) (.leaf (0,[(.b false)]))):=by kernel_rfl
theorem qoq(x0:Int)(x1:Int):jE [.i x0,.i x1]=(.br (okR (q4K [(.i x0)])) (.br (not (gB (q4K [(.i x0)]) 0)) (.leaf (0,[(.i 2)])) (.br (okR (q4K [(.i x1)])) (.br (not (gB (q4K [(.i x1)]) 0)) (.leaf (0,[(.i 2)])) (.br (ilt x1 x0) (.leaf (0,[(.i 9)])) (.leaf (0,[(.i 0)])))) .fail)) .fail):=by kernel_rfl
theorem qat(y0:R)(y1:Int):q0L [.r y0,.i y1]=(.br (ilt y1 (qf y0)) (.br (inb y1 (qf y0)) (let r0:TR:=(jE [(.i (cI y0 y1 0)),(.i (cI y0 y1 1))])
 .br (okR r0) (.br (ine (gI r0 0) 0) (.leaf (2,[(.i (gI r0 0))])) (.br (inb y1 (qf y0)) (.br (ilt (cI y0 y1 0) 1) (.leaf (2,[(.i 2)])) (.leaf (0,[(.r y0),(.i (qk .i64 y1 1))]))) .fail)) .fail) .fail) (.leaf (1,[]))):=by kernel_rfl
theorem qly(x0:R):vL [.r x0]=(.br (ieq (qf x0) 0) (.leaf (0,[(.i 13)])) (.br (ilt 16 (qf x0)) (.leaf (0,[(.i 5)])) (let r0:TR:=(qj q0L [(.r x0),(.i 0)])
 .br (okR r0) (.br (jIs r0 0) (.leaf (0,[(.i 0)])) (.leaf (0,[(.i (gI r0 0))]))) .fail))):=by kernel_rfl
theorem q5n(y0:R)(y1:R)(y2:Int)(y3:Int):va [.r y0,.r y1,.i y2,.i y3]=(.br (ilt y3 (qf y1)) (.br (inb y3 (qf y0)) (.br (inb y3 (qf y1)) (let r0:TR:=(q1f [(.i (cI y0 y3 0)),(.i (cI y0 y3 1)),(.i (cI y1 y3 0))])
 .br (okR r0) (.br (not (gB r0 0)) (.leaf (2,[(.i 0),(.i 14)])) (.br (inb y3 (qf y1)) (.leaf (0,[(.r y0),(.r y1),(.i (qk .i64 y2 (cI y1 y3 0))),(.i (qk .i64 y3 1))])) .fail)) .fail) .fail) .fail) (.leaf (1,[(.i y2)]))):=by kernel_rfl
theorem qno(x0:R)(x1:R):q3U [.r x0,.r x1]=(let r0:TR:=(vL [(.r x0)])
 .br (okR r0) (.br (ine (gI r0 0) 0) (.leaf (0,[(.i 0),(.i (gI r0 0))])) (.br (ine (qf x1) (qf x0)) (.leaf (0,[(.i 0),(.i 8)])) (let r1:TR:=(qj va [(.r x0),(.r x1),(.i 0),(.i 0)])
 .br (okR r1) (.br (jIs r1 0) (.leaf (0,[(.i (gI r1 0)),(.i 0)])) (.leaf (0,[(.i (gI r1 0)),(.i (gI r1 1))]))) .fail))) .fail):=by kernel_rfl
theorem q9X(y0:R)(y1:Int)(y2:Int)(y3:Int)(y4:Int)(y5:Int):uf [.r y0,.i y1,.i y2,.i y3,.i y4,.i y5]=(.br (ilt y1 (qf y0)) (.br (inb y1 (qf y0)) (.br (inb y1 (qf y0)) (.leaf (0,[(.r y0),(.i (qk .i64 y1 1)),(.i y2),(.i y3),(.i (qk .i64 y4 (cI y0 y1 0))),(.i (qk .i64 y5 (cI y0 y1 1)))])) .fail) .fail) (.leaf (1,[(.i y2),(.i y3),(.i y4),(.i y5)]))):=by kernel_rfl
theorem qlB(x0:R):q2q [.r x0]=(let r0:TR:=(vL [(.r x0)])
 .br (okR r0) (.br (ine (gI r0 0) 0) (.leaf (0,[(.i 0),(.i 0),(.i (gI r0 0))])) (let r1:TR:=(qj uf [(.r x0),(.i 0),(.i 0),(.i 0),(.i 0),(.i 0)])
 .br (okR r1) (.leaf (0,[(.i (gI r1 2)),(.i (gI r1 3)),(.i 0)])) .fail)) .fail):=by kernel_rfl
theorem qbV(x0:R)(x1:R):vG [.r x0,.r x1]=(.br (ilt 60 (qf x0)) (let r0:TR:=(qx [])
 .br (okR r0) (.leaf (0,[(.b (gB r0 0))])) .fail) (.br (ilt 60 (qf x1)) (let r0:TR:=(qx [])
 .br (okR r0) (.leaf (0,[(.b (gB r0 0))])) .fail) (let r0:TR:=(z7 [(.r x0),(.r x1)])
 .br (okR r0) (let r1:TR:=(q3U [(.r x0),(.r x1)])
 .br (okR r1) (let r2:TR:=(zv [(.r x0)])
 .br (okR r2) (let r3:TR:=(q2q [(.r x0)])
 .br (okR r3) (let r4:TR:=(qx [])
 .br (okR r4) (.br (gB r4 0) (.br (ieq (gI r0 0) (gI r1 0)) (.br (ieq (gI r0 1) (gI r1 1)) (.br (qvg (ieq (gI r2 0) (gI r3 0)) (qvg (ieq (gI r2 1) (gI r3 1)) true)) (.leaf (0,[(.b (ieq (gI r2 2) (gI r3 2)))])) (.leaf (0,[(.b false)]))) (.leaf (0,[(.b false)]))) (.leaf (0,[(.b false)]))) (.leaf (0,[(.b false)]))) .fail) .fail) .fail) .fail) .fail))):=by kernel_rfl
theorem q2m(y0:R)(y1:Int)(y2:R)(y3:Int)(y4:Int)(y5:Int)(y6:Int)(y7:R)(y8:R)(y9:R):zC [.r y0,.i y1,.r y2,.i y3,.i y4,.i y5,.i y6,.r y7,.r y8,.r y9]=(.br (ilt y4 y3) (.br (inb y4 (qf y2)) (.br (okR (jE [(.i (cI y2 y4 0)),(.i (cI y2 y4 1))])) (.br (ine (gI (jE [(.i (cI y2 y4 0)),(.i (cI y2 y4 1))]) 0) 0) (.leaf (2,[(.b false)])) (.br (ile ((qf y7)+(qf [[(.i (cI y2 y4 0))]])) 17592186044416) (.br (ile ((qf y8)+(qf [[(.i (cI y2 y4 1))]])) 17592186044416) (.br (ine (qk .i64 (qB .i64 (cI y2 y4 1) (cI y2 y4 0)) 1) 0) (.br (ile ((qf y9)+(qf [[(.i (qk .i64 (cI y2 y4 0) (qou (qmU .i64 y1) (qk .i64 (qB .i64 (cI y2 y4 1) (cI y2 y4 0)) 1))))]])) 17592186044416) (.leaf (0,[(.r y0),(.i y1),(.r y2),(.i y3),(.i (qk .i64 y4 1)),(.i y5),(.i y6),(.r (q3F y7 [[(.i (cI y2 y4 0))]])),(.r (q3F y8 [[(.i (cI y2 y4 1))]])),(.r (q3F y9 [[(.i (qk .i64 (cI y2 y4 0) (qou (qmU .i64 y1) (qk .i64 (qB .i64 (cI y2 y4 1) (cI y2 y4 0)) 1))))]]))])) .fail) .fail) .fail) .fail)) .fail) .fail) (.leaf (1,[(.r y0),(.i y5),(.i y6),(.r y7),(.r y8),(.r y9)]))):=by kernel_rfl
theorem qbH(x0:R)(x1:Int):vM [.r x0,.i x1]=(.br (ilt 60 (qf x0)) (let r0:TR:=(qx [])
 .br (okR r0) (.leaf (0,[(.b (gB r0 0))])) .fail) (let r0:TR:=(zv [(.r x0)])
 .br (okR r0) (.br (ine (gI r0 2) 0) (let r1:TR:=(qx [])
 .br (okR r1) (.leaf (0,[(.b (gB r1 0))])) .fail) (let r1:TR:=(qj zC [(.r x0),(.i x1),(.r x0),(.i (qf x0)),(.i 0),(.i (gI r0 0)),(.i (gI r0 1)),(.r []),(.r []),(.r [])])
 .br (okR r1) (.br (jIs r1 0) (let r2:TR:=(z7 [(.r (gR r1 0)),(.r (gR r1 3))])
 .br (okR r2) (let r3:TR:=(z7 [(.r (gR r1 0)),(.r (gR r1 4))])
 .br (okR r3) (let r4:TR:=(z7 [(.r (gR r1 0)),(.r (gR r1 5))])
 .br (okR r4) (.br (ieq (qk .i64 (qk .i64 (gI r2 1) (gI r3 1)) (gI r4 1)) 0) (.br (ieq (gI r2 0) (gI r1 1)) (.br (ieq (gI r3 0) (gI r1 2)) (let r5:TR:=(q1f [(.i (gI r1 1)),(.i (gI r1 2)),(.i (gI r4 0))])
 .br (okR r5) (.br (gB r5 0) (let r6:TR:=(qx [])
 .br (okR r6) (.leaf (0,[(.b (gB r6 0))])) .fail) (.leaf (0,[(.b false)]))) .fail) (.leaf (0,[(.b false)]))) (.leaf (0,[(.b false)]))) (.leaf (0,[(.b false)]))) .fail) .fail) .fail) (.leaf (0,[(.b (gB r1 0))]))) .fail)) .fail)):=by kernel_rfl
theorem q2C(y0:R)(y1:R)(y2:R)(y3:Int)(y4:Int):yB [.r y0,.r y1,.r y2,.i y3,.i y4]=(.br (ilt y4 y3) (.br (inb y4 (qf y2)) (let r0:TR:=(zY [(.i (cI y2 y4 0)),(.i (cI y2 y4 1)),(.i (cI y2 y4 2)),(.i (cI y2 y4 3)),(.i (cI y2 y4 4)),(.i (cI y2 y4 5)),(.b (cB y2 y4 6))])
 .br (okR r0) (.br (ine (gI r0 0) 0) (.leaf (2,[(.i (gI r0 0))])) (.leaf (0,[(.r y0),(.r y1),(.r y2),(.i y3),(.i (qk .i64 y4 1))]))) .fail) .fail) (.leaf (1,[(.r y0),(.r y1)]))):=by kernel_rfl
theorem q1M(y0:R)(y1:Int)(y2:Int):jM [.r y0,.i y1,.i y2]=(.br (ilt y2 y1) (.br (inb y2 (qf y0)) (let r0:TR:=(uY [(.i (cI y0 y2 0)),(.i (cI y0 y2 1)),(.i (cI y0 y2 2))])
 .br (okR r0) (.br (ine (gI r0 0) 0) (.leaf (2,[(.i (gI r0 0))])) (.leaf (0,[(.r y0),(.i y1),(.i (qk .i64 y2 1))]))) .fail) .fail) (.leaf (1,[]))):=by kernel_rfl
theorem qhH(x0:R)(x1:R):yh [.r x0,.r x1]=(.br (ilt 16 (qf x0)) (.leaf (0,[(.i 5)])) (let r0:TR:=(qj yB [(.r x0),(.r x1),(.r x0),(.i (qf x0)),(.i 0)])
 .br (okR r0) (.br (jIs r0 0) (.br (ine (qf (gR r0 1)) (qf (gR r0 0))) (.leaf (0,[(.i 8)])) (let r1:TR:=(qj jM [(.r (gR r0 1)),(.i (qf (gR r0 1))),(.i 0)])
 .br (okR r1) (.br (jIs r1 0) (.leaf (0,[(.i 0)])) (.leaf (0,[(.i (gI r1 0))]))) .fail)) (.leaf (0,[(.i (gI r0 0))]))) .fail)):=by kernel_rfl
theorem qbE(x0:Int)(x1:Int)(x2:Int)(x3:Int)(x4:Int)(x5:Int)(x6:Bool)(x7:Int)(x8:Int):vJ [.i x0,.i x1,.i x2,.i x3,.i x4,.i x5,.b x6,.i x7,.i x8]=(.br (ieq x5 0) (.leaf (0,[(.i 0)])) (let r0:TR:=(wh [(.i x0),(.i x1),(.i x2),(.i x3),(.i x4),(.i x5),(.b x6),(.i x7),(.i x7)])
 .br (okR r0) (.leaf (0,[(.i (jF .i64 x7 (qB .i64 (gI r0 0) x8)))])) .fail)):=by kernel_rfl
theorem qn6(x0:Int)(x1:Int)(x2:Int)(x3:Int)(x4:Int)(x5:Int)(x6:Bool)(x7:Int):q3V [.i x0,.i x1,.i x2,.i x3,.i x4,.i x5,.b x6,.i x7]=(.br (ile x2 x7) (.leaf (0,[(.b (ile x7 x3))])) (.leaf (0,[(.b false)]))):=by kernel_rfl
theorem qqQ(x0:Int)(x1:Int)(x2:Int)(x3:Int)(x4:Int)(x5:Int)(x6:Bool)(x7:Int)(x8:Int)(x9:Int):q4F [.i x0,.i x1,.i x2,.i x3,.i x4,.i x5,.b x6,.i x7,.i x8,.i x9]=(let r0:TR:=(q63 [(.i x0),(.i x1),(.i x2),(.i x3),(.i x4),(.i x5),(.b x6),(.i x7),(.i x8),(.i x9)])
 .br (okR r0) (let r1:TR:=(q5T [(.i x0),(.i x1),(.i x2),(.i x3),(.i x4),(.i x5),(.b x6)])
 .br (okR r1) (let r2:TR:=(vJ [(.i (gI r1 0)),(.i (gI r1 1)),(.i (gI r1 2)),(.i (gI r1 3)),(.i (gI r1 4)),(.i (gI r1 5)),(.b (gB r1 6)),(.i (gI r1 7)),(.i x9)])
 .br (okR r2) (let r3:TR:=(q3V [(.i x0),(.i x1),(.i x2),(.i x3),(.i x4),(.i x5),(.b x6),(.i x9)])
 .br (okR r3) (.br (gB r3 0) (.leaf (0,[(.b (ile (jF .i64 4 (qk .i64 (jF .i64 (gI r0 0) (gI r0 0)) (jF .i64 (gI r0 1) (gI r0 1)))) (jF .i64 (qk .i64 x4 (gI r2 0)) (qk .i64 x4 (gI r2 0)))))])) (.leaf (0,[(.b false)]))) .fail) .fail) .fail) .fail):=by kernel_rfl
theorem q93(y0:R)(y1:R)(y2:Int)(y3:Int)(y4:R):uX [.r y0,.r y1,.i y2,.i y3,.r y4]=(.br (ilt y3 y2) (.br (inb y3 (qf y1)) (.br (inb y3 (qf y0)) (let r0:TR:=(q4F [(.i (cI y1 y3 0)),(.i (cI y1 y3 1)),(.i (cI y1 y3 2)),(.i (cI y1 y3 3)),(.i (cI y1 y3 4)),(.i (cI y1 y3 5)),(.b (cB y1 y3 6)),(.i (cI y0 y3 0)),(.i (cI y0 y3 1)),(.i (cI y0 y3 2))])
 .br (okR r0) (.br (not (gB r0 0)) (.br (ile ((qf y4)+(qf [[(.i y3)]])) 17592186044416) (.leaf (0,[(.r y0),(.r y1),(.i y2),(.i (qk .i64 y3 1)),(.r (q3F y4 [[(.i y3)]]))])) .fail) (.leaf (0,[(.r y0),(.r y1),(.i y2),(.i (qk .i64 y3 1)),(.r y4)]))) .fail) .fail) .fail) (.leaf (1,[(.r y4)]))):=by kernel_rfl
theorem qkj(x0:R)(x1:R):uJ [.r x0,.r x1]=(let r0:TR:=(yh [(.r x0),(.r x1)])
 .br (okR r0) (.br (ine (gI r0 0) 0) (.leaf (0,[(.r []),(.i (gI r0 0))])) (let r1:TR:=(qj uX [(.r x1),(.r x0),(.i (qf x0)),(.i 0),(.r [])])
 .br (okR r1) (.leaf (0,[(.r (gR r1 0)),(.i 0)])) .fail)) .fail):=by kernel_rfl
theorem qbe(x0:R)(x1:R)(x2:R)(x3:R):vw [.r x0,.r x1,.r x2,.r x3]=(let r0:TR:=(q54 [(.r x0),(.r x1),(.r x2),(.r x3)])
 .br (okR r0) (.br (not (gB r0 0)) (let r1:TR:=(qx [])
 .br (okR r1) (.leaf (0,[(.b (gB r1 0))])) .fail) (let r1:TR:=(uJ [(.r x0),(.r x2)])
 .br (okR r1) (let r2:TR:=(uJ [(.r x1),(.r x3)])
 .br (okR r2) (let r3:TR:=(vQ [(.r x0),(.r x1)])
 .br (okR r3) (let r4:TR:=(zw [(.r x0),(.r x1),(.r x2),(.r x3)])
 .br (okR r4) (let r5:TR:=(zk [(.r x0),(.r x1),(.r x2),(.r x3)])
 .br (okR r5) (.br (ine (qk .i64 (qk .i64 (qk .i64 (qk .i64 (gI r1 1) (gI r2 1)) (gI r3 1)) (gI r4 1)) (gI r5 4)) 0) (.leaf (0,[(.b false)])) (.br (ieq (qf (gR r1 0)) 0) (.br (ieq (qf (gR r2 0)) 0) (.br (gB r3 0) (.br (ieq (qf (gR r4 0)) 0) (.br (gB r5 0) (let r6:TR:=(qx [])
 .br (okR r6) (.leaf (0,[(.b (gB r6 0))])) .fail) (.leaf (0,[(.b false)]))) (.leaf (0,[(.b false)]))) (let r6:TR:=(qx [])
 .br (okR r6) (.leaf (0,[(.b (gB r6 0))])) .fail)) (let r6:TR:=(qx [])
 .br (okR r6) (.leaf (0,[(.b (gB r6 0))])) .fail)) (let r6:TR:=(qx [])
 .br (okR r6) (.leaf (0,[(.b (gB r6 0))])) .fail))) .fail) .fail) .fail) .fail) .fail)) .fail):=by kernel_rfl
end Go.Eng

namespace Go.Eng
mutual
def qeM{H:Type}:DataW H→List U
 | .lit (.bool b)=>[.b b]
 | .lit (.int _ n)=>[.i n]
 | .lit (.string s)=>[.s s]
 | .nil=>[.l []]
 | .slice es _=>[.l (qsM es)]
 | .agg ps=>qw1 ps
 | _=>[.i 0]
def qw1{H:Type}:List (DataW H)→List U
 | []=>[]
 | d::l=>qeM d++qw1 l
def qsM{H:Type}:List (DataW H)→List (List U)
 | []=>[]
 | d::l=>qeM d::qsM l
end
theorem qfR{H:Type}:∀l:List (DataW H),qsM l=l.map qeM
 | []=>rfl
 | d::l=>by simp[qsM,qfR l]
inductive UFit:Sh→U→Prop
 | int (k:IntKind) (n:Int) (h0:k.min≤n) (h1:n≤k.max):UFit (.int k) (.i n)
 | bool (b:Bool):UFit .bool (.b b)
 | str (s:List UInt8) (h:s.length≤maxLen):UFit .str (.s s)
 | sl (row:List Sh) (l:R) (h:l.length≤maxLen) (hl:∀r,r∈l→r.length=row.length) (hf:∀(r:List U) (j:Nat) (s:Sh) (u:U),r∈l→row[j]?=some s→r[j]?=some u→UFit s u):UFit (.sl row) (.l l)
inductive CR (W:World) (M:Nat→Prop):List Sh→List U→List Value→Prop
 | nil:CR W M [] [] []
 | cons {s:Sh} {u:U} {v:Value} {sh:List Sh} {us:List U} {vs:List Value} (h:RepU W M s u v) (f:UFit s u) (t:CR W M sh us vs):CR W M (s::sh) (u::us) (v::vs)
theorem CR.append{W:World}{M:Nat→Prop}{a a':List Sh}{b b':List U}{c c':List Value}(h:CR W M a b c)(k:CR W M a' b' c'):CR W M (a++a') (b++b') (c++c'):=by
 induction h with
 | nil=>exact k
 | cons h f t ih=>exact .cons h f ih
theorem CR.len{W:World}{M:Nat→Prop}{a:List Sh}{b:List U}{c:List Value}(h:CR W M a b c):b.length=a.length∧c.length=a.length:=by
 induction h with
 | nil=>exact⟨rfl,rfl⟩
 | cons h f t ih=>simp[ih.1,ih.2]
theorem CR.get{W:World}{M:Nat→Prop}{a:List Sh}{b:List U}{c:List Value}(h:CR W M a b c):∀(j:Nat) (s:Sh),a[j]?=some s→∃u v,b[j]?=some u∧c[j]?=some v∧RepU W M s u v∧UFit s u:=by
 induction h with
 | nil=>intro j s hj;simp at hj
 | cons h f t ih=>
  intro j s hj
  cases j with
  | zero=>simp at hj;subst hj;exact⟨_,_,rfl,rfl,h,f⟩
  | succ j=>simpa using ih j s (by simpa using hj)
def qqy:Nat→List (Nat×TypeId×Nat)→Bool
 | _,[]=>true
 | o,f::l=>Nat.beq f.1 o&&qqy (o+f.2.2) l
def qw0:List (Nat×TypeId×Nat)→Nat
 | []=>0
 | f::l=>f.2.2+qw0 l
def qmT(x:TI):Bool:=match x.d with
 | .struct fs=>qqy 0 fs&&Nat.beq (qw0 fs) x.size
 | .array n _ es=>Nat.beq (n*es) x.size
 | .slice _ es=>Nat.blt 0 es
 | _=>true
theorem qyX{E:Env}(h:E.tt.all (fun x=>qmT x.2)=true)(t:TypeId):qmT (E.ty t)=true:=by
 unfold Env.ty
 cases hf:E.tt.find? fun x=>x.1==t with
 | none=>rfl
 | some x=>exact List.all_eq_true.1 h x (List.mem_of_find?_eq_some hf)
section
variable {H:Type} {enc:TypeId×Value→H} {P:Program} {W:World} {base:Nat} {sp:Nat→Bool} {held:Bool} {E:Env}
theorem qoL{M:Nat→Prop}{fuel n:Nat}{cs:List Value}(ih:∀t cs d ps sh,E.shape n t=some sh→DataW.trod enc P W base sp held fuel t cs=some (d,ps)→CR W M sh (qeM d) cs) :
  ∀(fs:List (Nat×TypeId×Nat)) (o:Nat) (xs:List (DataW H×List MemPlace)) (shs:List (List Sh)),qqy o fs=true→o+qw0 fs=cs.length→fs.mapM (fun f=>E.shape n f.2.1)=some shs →
   xs.length=fs.length→(∀(i:Nat) (f:Nat×TypeId×Nat),fs[i]?=some f→DataW.trod enc P W base sp held fuel f.2.1 ((cs.drop f.1).take f.2.2)=xs[i]?) →
   CR W M shs.flatten (qw1 (xs.map (·.1))) (cs.drop o)
 | [],o,xs,shs,_,hs,hsh,hl,_=>by
  simp[qw0] at hs hsh hl
  subst hsh hl
  have:cs.drop o=[]:=List.drop_eq_nil_of_le (by omega)
  rw[this]
  exact .nil
 | f::fs,o,xs,shs,hlay,hs,hsh,hl,hx=>by
  simp only[qqy,Bool.and_eq_true] at hlay
  obtain⟨h1,h2⟩:=hlay
  have ho:f.1=o:=Nat.eq_of_beq_eq_true h1
  simp only[qw0] at hs
  rw[List.mapM_cons] at hsh
  cases hsf:E.shape n f.2.1 with
  | none=>rw[hsf] at hsh;cases hsh
  | some shf=>
   cases hrest:fs.mapM (fun f=>E.shape n f.2.1) with
   | none=>rw[hsf,hrest] at hsh;cases hsh
   | some shr=>
    rw[hsf,hrest] at hsh
    cases hsh
    cases xs with
    | nil=>simp at hl
    | cons x xs=>
     have h0:=hx 0 f rfl
     simp only[List.getElem?_cons_zero] at h0
     have c1:=ih f.2.1 _ x.1 x.2 shf hsf h0
     rw[ho] at c1
     have c2:=qoL (cs:=cs) (M:=M) (fuel:=fuel) ih fs (o+f.2.2) xs shr h2 (by omega) hrest (by simpa using hl) fun i g hg=>by
      have:=hx (i+1) g (by simpa using hg)
      simpa using this
     have hsplit:cs.drop o=(cs.drop o).take f.2.2++cs.drop (o+f.2.2):=by
      rw[←List.drop_drop,List.take_append_drop]
     rw[hsplit]
     simp only[List.flatten_cons,List.map_cons,qw1]
     exact c1.append c2
theorem qrC{M:Nat→Prop}{fuel n es:Nat}{e:TypeId}{cs:List Value}{she:List Sh}(he:E.shape n e=some she)
  (ih:∀t cs d ps sh,E.shape n t=some sh→DataW.trod enc P W base sp held fuel t cs=some (d,ps)→CR W M sh (qeM d) cs) :
  ∀(m o:Nat) (xs:List (DataW H×List MemPlace)),(o+m)*es=cs.length→xs.length=m→(∀i,i<m→DataW.trod enc P W base sp held fuel e ((cs.drop ((o+i)*es)).take es)=xs[i]?) →
   CR W M (List.replicate m she).flatten (qw1 (xs.map (·.1))) (cs.drop (o*es))
 | 0,o,xs,hs,hl,_=>by
  simp at hl hs;subst hl
  have:cs.drop (o*es)=[]:=List.drop_eq_nil_of_le (by omega)
  rw[this]
  exact .nil
 | m+1,o,xs,hs,hl,hx=>by
  cases xs with
  | nil=>simp at hl
  | cons x xs=>
   have h0:=hx 0 (by omega)
   simp only[List.getElem?_cons_zero,Nat.add_zero] at h0
   have c1:=ih e _ x.1 x.2 she he h0
   have c2:=qrC (cs:=cs) he ih m (o+1) xs (by rw[←hs];congr 1;omega) (by simpa using hl) fun i hi=>by
    have:=hx (i+1) (by omega)
    rw[show o+(i+1)=o+1+i by omega] at this
    simpa using this
   have hsplit:cs.drop (o*es)=(cs.drop (o*es)).take es++cs.drop ((o+1)*es):=by
    rw[Nat.add_mul,Nat.one_mul,←List.drop_drop,List.take_append_drop]
   rw[hsplit]
   simp only[List.replicate_succ,List.flatten_cons,List.map_cons,qw1]
   exact c1.append c2
theorem qvm(hE:E.tok P)(hlay:E.tt.all (fun x=>qmT x.2)=true):∀(fuel n:Nat) (t:TypeId) (cs:List Value) (d:DataW H) (ps:List MemPlace) (sh:List Sh),E.shape n t=some sh →
  DataW.trod enc P W base sp held fuel t cs=some (d,ps)→CR W (fun b=>b<W.heap.size) sh (qeM d) cs:=by
 intro fuel
 induction fuel with
 | zero=>intro n t cs d ps sh _ h;simp[DataW.trod] at h
 | succ fuel ih=>
  intro n t cs d ps sh hsh h
  cases n with
  | zero=>simp[Env.shape] at hsh
  | succ n=>
   simp only[Env.shape] at hsh
   have hl:=qyX hlay t
   unfold qmT at hl
   cases hd:(E.ty t).d<;>rw[hd] at hsh hl<;>simp only at hsh hl<;>try (cases hsh)
   ·
    unfold DataW.trod at h
    rw[qlQ hE hd] at h
    split at h<;>simp_all
    obtain⟨rfl,_⟩:=h
    exact .cons (.bool (.b _)) (.bool _) .nil
   ·
    rename_i k
    unfold DataW.trod at h
    rw[qnc hE hd] at h
    split at h<;>simp_all
    obtain⟨⟨rfl,hw⟩,rfl,_⟩:=h
    simp[Lit.wf] at hw
    exact .cons (.int _ (.i _)) (.int _ _ hw.1 hw.2) .nil
   ·
    unfold DataW.trod at h
    rw[qgL hE hd] at h
    split at h<;>simp_all
    rename_i s
    obtain⟨hm,rfl,_⟩:=h
    refine .cons ?_ (.str _ (by simpa using hm)) .nil
    have:=RepU.str (w:=W) (M:=fun b=>b<W.heap.size) (.s s.data.toList)
    simpa[U.toS] using this
   ·
    rename_i e es
    obtain⟨ht,rfl⟩:=q0Y hE hd
    cases he:E.shape n e with
    | none=>rw[he] at hsh;cases hsh
    | some she=>
     rw[he] at hsh
     cases hsh
     have hpos:0<P.cellsOf e:=by simpa[Nat.blt_eq] using hl
     rcases DataW.trod_slice ht h with⟨rfl,hx⟩|⟨a,len,cap,elems,rest,k,hk,rfl,hx,hb,hlc,hcm,hlen,hel,_,_⟩
     ·cases hx
      exact .cons (.slnil _ _ rfl) (.sl _ _ (by simp[maxLen]) (fun r hr=>by cases hr) (fun r j s u hr=>by cases hr)) .nil
     ·cases hx
      cases hk
      have hrow:∀(i:Nat) (hi:i<len),∃cs',W.cells? base (a.add (i*P.cellsOf e)) (P.cellsOf e)=some cs'∧CR W (fun b=>b<W.heap.size) she (qeM (elems[i]'(by omega)).1) cs':=by
       intro i hi
       have h0:=hel i hi
       rw[List.getElem?_eq_getElem (by omega)] at h0
       obtain⟨cs',g1,g2⟩:=Option.bind_eq_some_iff.1 h0
       exact⟨cs',g1,ih n e cs' _ _ she he g2⟩
      have hget:∀(r:Nat) (hr:r<len),(((elems.map (·.1)).map qeM).getD r []:List U)=qeM (elems[r]'(by omega)).1:=by
       intro r hr
       simp[List.getD_eq_getElem?_getD,hlen,hr]
      have hcell:∀(r j:Nat) (s:Sh) (hr:r<len),she[j]?=some s→∃v,W.cell? ⟨a.block,a.off+r*she.length+j,none⟩=some v∧RepU W (fun b=>b<W.heap.size) s (j5 (qsM (elems.map (·.1))) r j) v∧UFit s ((qeM (elems[r]'(by omega)).1).getD j (.i 0))∧a.spot=none∧a.block<W.heap.size:=by
       intro r j s hr hj
       obtain⟨cs',g1,g2⟩:=hrow r hr
       obtain⟨_,g4,g5⟩:=World.cells?_some g1
       obtain⟨q1,q2⟩:=g2.len
       obtain⟨u,v,e1,e2,e3,e4⟩:=g2.get j s hj
       have hlen:she.length=P.cellsOf e:=by rw[←q2,g4]
       have hjl:j<P.cellsOf e:=by rw[←hlen];exact qo hj
       have hc:=(g5 j hjl).trans e2
       have h00:=g5 0 hpos
       obtain⟨cs0,z1,z2⟩:=hrow 0 (by omega)
       obtain⟨_,z4,z5⟩:=World.cells?_some z1
       have hz:=z5 0 hpos
       obtain⟨v0,hv0⟩:∃v0,cs0[0]?=some v0:=⟨cs0[0],List.getElem?_eq_getElem (by omega)⟩
       rw[hv0] at hz
       simp only[Nat.zero_mul,Addr.add,if_true] at hz
       have hspot:=World.cell?_spot hz
       refine⟨v,?_,?_,?_,hspot,World.block_lt_of_cell? _ _ hz⟩
       ·rw[←hc,Addr.add_of hspot,Addr.add_lit,hlen]
       ·have:j5 (qsM (elems.map (·.1))) r j=u:=by
         rw[qfR]
         unfold j5
         rw[Int.toNat_natCast,hget r hr]
         simp[List.getD_eq_getElem?_getD,e1]
        rw[this];exact e3
       ·simp[List.getD_eq_getElem?_getD,e1];exact e4
      have hrl:(qsM (elems.map (·.1))).length=len:=by rw[qfR];simp[hlen]
      have hsh0:0<len→0<she.length:=by
       intro hl0
       obtain⟨cs',g1,g2⟩:=hrow 0 hl0
       obtain⟨_,g4,_⟩:=World.cells?_some g1
       rw[←g2.len.2,g4];exact hpos
      refine .cons ?_ (.sl _ _ (by rw[hrl];omega) ?_ ?_) .nil
      ·have hR:=qd2 (w:=W) (M:=fun b=>b<W.heap.size) (row:=she) (l:=qsM (elems.map (·.1))) (v:=.slice (some a) len cap) (.inr ⟨a,cap,by rw[hrl],fun h0=>by
        rw[hrl] at h0
        obtain⟨_,_,_,_,h4,_⟩:=hcell 0 0 she[0] h0 (List.getElem?_eq_getElem (hsh0 h0))
        exact h4,by rw[hrl];exact hlc,fun r j hj hr=>by
        rw[hrl] at hr
        obtain⟨v,h1,h2,_,_,h5⟩:=hcell r j she[j] hr (List.getElem?_eq_getElem hj)
        exact⟨h5,v,h1,h2⟩⟩)
       exact hR
      ·intro r hr
       rw[qfR] at hr
       obtain⟨i,hi⟩:=List.getElem?_of_mem hr
       have hil:i<len:=by have:=qo hi;simpa[hlen] using this
       have:r=qeM (elems[i]'(by omega)).1:=by
        rw[←hget i hil,List.getD_eq_getElem?_getD,hi];rfl
       obtain⟨cs',g1,g2⟩:=hrow i hil
       rw[this];exact g2.len.1
      ·intro r j s u hr hs hu
       rw[qfR] at hr
       obtain⟨i,hi⟩:=List.getElem?_of_mem hr
       have hil:i<len:=by have:=qo hi;simpa[hlen] using this
       have:r=qeM (elems[i]'(by omega)).1:=by
        rw[←hget i hil,List.getD_eq_getElem?_getD,hi];rfl
       subst this
       obtain⟨_,_,_,h3,_⟩:=hcell i j s hil hs
       simpa[List.getD_eq_getElem?_getD,hu] using h3
   ·
    rename_i m e es
    obtain⟨ht,rfl⟩:=qa7 hE hd
    cases he:E.shape n e with
    | none=>rw[he] at hsh;cases hsh
    | some she=>
     rw[he] at hsh
     cases hsh
     obtain⟨xs,m0,hf,hx,hcl,hxl,hel⟩:=DataW.trod_array ht h
     cases hf
     cases hx
     have hsz:m*P.cellsOf e=cs.length:=by
      rw[hcl]
      have h1:=Nat.eq_of_beq_eq_true hl
      obtain⟨_,i,dd,h2,_,_,h4,_⟩:=q1h hE (t:=t) (by rw[hd];rfl)
      rw[h1,h4]
      unfold Program.cellsOf
      rw[h2];rfl
     have:=qrC (cs:=cs) he (fun t cs d ps sh h1 h2=>ih n t cs d ps sh h1 h2) m 0 xs (by simpa using hsz) hxl (fun i hi=>by simpa using hel i hi)
     simpa[qeM] using this
   ·
    rename_i fs
    obtain⟨fields,ht,rfl⟩:=q6X hE hd
    cases hm:(fields.toList.map fun f=>(f.offset,f.type,P.cellsOf f.type)).mapM fun f=>E.shape n f.2.1 with
    | none=>rw[hm] at hsh;cases hsh
    | some shs=>
     rw[hm] at hsh
     cases hsh
     obtain⟨xs,m0,hf,hx,hcl,hxl,hel⟩:=DataW.trod_struct ht h
     cases hf
     cases hx
     simp only[Bool.and_eq_true] at hl
     have hsz:qw0 (fields.toList.map fun f=>(f.offset,f.type,P.cellsOf f.type))=cs.length:=by
      rw[hcl]
      have h1:=Nat.eq_of_beq_eq_true hl.2
      obtain⟨_,i,dd,h2,_,_,h4,_⟩:=q1h hE (t:=t) (by rw[hd];rfl)
      rw[h1,h4]
      unfold Program.cellsOf
      rw[h2];rfl
     have:=qoL (cs:=cs) (fun t cs d ps sh h1 h2=>ih n t cs d ps sh h1 h2) _ 0 xs shs hl.1 (by simpa using hsz) hm (by simpa using hxl) (fun i f hf=>by
      rw[List.getElem?_map] at hf
      cases hfi:fields.toList[i]? with
      | none=>rw[hfi] at hf;cases hf
      | some g=>
       rw[hfi] at hf
       cases hf
       exact hel i g (by simpa using hfi))
     simpa[qeM] using this
end
end Go.Eng

namespace Go.Eng
open Go.RowKit
inductive UFits:List Sh→List U→Prop
 | nil:UFits [] []
 | cons {s:Sh} {u:U} {sh:List Sh} {us:List U} (h:UFit s u) (t:UFits sh us):UFits (s::sh) (u::us)
theorem CR.fits{W:World}{M:Nat→Prop}{a:List Sh}{b:List U}{c:List Value}(h:CR W M a b c):UFits a b:=by
 induction h with
 | nil=>exact .nil
 | cons h f t ih=>exact .cons f ih
def q80:List Sh→List U→List AV
 | .int k::sh,u::us=>.int k u.toI::q80 sh us
 | .bool::sh,u::us=>.bool u.toB::q80 sh us
 | .str::sh,u::us=>.str u.toS::q80 sh us
 | .sl row::sh,u::us=>.imm row u.toR::q80 sh us
 | _,_=>[]
theorem qvv{X:Ctx}{sh:List Sh}{us:List U}{vs:List Value}(h:CR X.w X.M sh us vs):RepL X (q80 sh us) vs:=by
 induction h with
 | nil=>exact .nil
 | cons h f t ih=>
  rename_i s u v sh us vs
  cases s with
  | int k=>cases h;exact .cons (.int _ _) ih
  | bool=>cases h;exact .cons (.bool _) ih
  | str=>cases h;exact .cons (.str _) ih
  | sl row=>exact .cons (.imm _ _ _ (qiJ h)) ih
def qj8(agg:Bool)(sh:List Sh)(us:List U):AV:=match agg with
 | true=>.agg (q80 sh us)
 | false=>(q80 sh us).headD .undef
section
variable {H:Type} {enc:TypeId×Value→H} {P:Program} {W:World} {base:Nat} {sp:Nat→Bool} {held:Bool} {E:Env}
theorem qcm(hE:E.tok P)(hlay:E.tt.all (fun x=>qmT x.2)=true){X:Ctx}(hw:X.w=W)(hM:X.M=fun b=>b<W.heap.size){r:Reach}{b0:Nat}{n:Nat}{t:TypeId}{v:Value}{d:DataW H}{ps:List MemPlace}{sh:List Sh}
  (hsh:E.shape n t=some sh) (hv:Value.okWide P W r b0 t v) (hd:DataW.Trod enc P W base sp held t v d ps):UFits sh (qeM d)∧Rep X (qj8 (E.ty t).d.isAgg sh (qeM d)) v:=by
 obtain⟨fuel,hf⟩:=hd
 have hc:=qvm hE hlay fuel n t _ d ps sh hsh hf
 refine⟨hc.fits,?_⟩
 have hr:RepL X (q80 sh (qeM d)) v.cells.toList:=qvv (by rw[hw,hM];exact hc)
 have hone:∀(_:(E.ty t).d.isAgg=false),v.cells=#[v]→Rep X (qj8 (E.ty t).d.isAgg sh (qeM d)) v:=by
  intro ha hcell
  rw[ha]
  rw[hcell] at hr
  simp only[qj8]
  generalize q80 sh (qeM d)=l at hr
  cases hr with
  | cons h1 h2=>simpa using h1
 unfold Value.okWide at hv
 cases n with
 | zero=>simp[Env.shape] at hsh
 | succ n=>
  simp only[Env.shape] at hsh
  cases hd:(E.ty t).d<;>rw[hd] at hsh hone<;>simp only at hsh<;>try (cases hsh)
  ·rw[qlQ hE hd] at hv
   refine hone rfl ?_
   cases v<;>simp[Cell.okWide,qlQ hE hd,Cell.ok] at hv<;>rfl
  ·rw[qnc hE hd] at hv
   refine hone rfl ?_
   cases v<;>simp[Cell.okWide,qnc hE hd,Cell.ok] at hv<;>rfl
  ·rw[qgL hE hd] at hv
   refine hone rfl ?_
   cases v<;>simp[Cell.okWide,qgL hE hd,Cell.ok] at hv<;>rfl
  ·rw[(q0Y hE hd).1] at hv
   refine hone rfl ?_
   cases v<;>simp[Cell.okWide,(q0Y hE hd).1,Cell.ok] at hv<;>rfl
  ·rw[(qa7 hE hd).1] at hv
   obtain⟨cs,rfl,_,_⟩:=hv
   simp only[TD.isAgg,qj8]
   exact .agg _ _ (by simpa[Value.cells] using hr)
  ·obtain⟨fields,ht,_⟩:=q6X hE hd
   rw[ht] at hv
   obtain⟨cs,rfl,_,_⟩:=hv
   simp only[TD.isAgg,qj8]
   exact .agg _ _ (by simpa[Value.cells] using hr)
end
theorem qjL{H:Type}{enc:TypeId×Value→H}{P:Program}{W:World}{base:Nat}{sp:Nat→Bool}{held:Bool}{ts:List TypeId}{ds:List (DataW H)}(h:(DataW.weightsEach P ts ds).all (·≤reachBytes)=true)
  (j:Nat) {t e:TypeId} {v:Value} {d:DataW H} {ps:List MemPlace} {x:R} {b:Nat} (ht:ts[j]?=some t) (hd:ds[j]?=some d) (hu:P.underlying t=some (.slice e)) (hb:P.bytesOf e=b)
  (htr:DataW.Trod enc P W base sp held t v d ps) (hx:[.l x]=qeM d):x.length*b≤140737488351232:=by
 have he:x.length=0∨∃es spr,d=.slice es spr∧x.length=es.length:=by
  obtain⟨fuel,hf⟩:=htr
  rcases DataW.trod_slice hu hf with⟨_,hx'⟩|⟨_,_,_,elems,rest,_,_,_,hx',_⟩
  ·cases hx'
   simp only[qeM,List.cons.injEq,U.l.injEq,and_true] at hx
   rw[hx];exact .inl rfl
  ·cases hx'
   simp only[qeM,List.cons.injEq,U.l.injEq,and_true] at hx
   exact .inr ⟨_,_,rfl,by rw[hx,qfR];simp⟩
 rcases he with he|⟨es,spr,rfl,he⟩
 ·rw[he];omega
 ·have:=List.all_eq_true.1 h _ (DataW.weights_mem_each ht hd ((es.length+spr.length)*P.bytesOf e) (by simp[DataW.weights,hu]))
  have h2:(es.length+spr.length)*P.bytesOf e≤reachBytes:=by simpa using this
  rw[hb] at h2
  rw[he]
  have h3:es.length*b≤(es.length+spr.length)*b:=Nat.mul_le_mul_right _ (by omega)
  have h4:reachBytes=140737488351232:=rfl
  omega
def qlP(W:World):Ctx:={ σ:=fun _=>none,h:=[],w:=W,M:=fun b=>b<W.heap.size }
def qwg(W:World):Base:={ w0:=W,imps:=[],M0:=fun b=>b<W.heap.size,fs:=[] }
theorem qCt(W:World):HSim (qwg W) (qlP W):=by
 have hno:∀b n,¬(qlP W).own b n:=by
  intro b n ⟨h,_⟩;cases h
 refine⟨fun b k h=>?_,fun b b' n h=>absurd h (hno b n),fun b n h=>absurd h (hno b n),fun n h=>h,fun n h=>h,fun n h=>.inl h,rfl,rfl,rfl,Nat.le_refl _,fun _ _ _=>rfl,fun b h=>?_,fun b h=>?_,fun b n h=>absurd h (hno b n),fun p hp=>by cases hp⟩
 ·have:([]:List Blk)[b]?=some k:=h
  simp at this
 ·exact absurd h (by simp[qwg])
 ·exact absurd h (by simp[qwg])
theorem qBD(W:World):Entry (qwg W) (qlP W):=⟨rfl,rfl,fun _ h=>h⟩
theorem qey{P:Program}{gl:List (Nat×AV)}{f:FuncId}{G:q15}(hG:qZ P gl f G){W:World}(hgl:q6V gl (qlP W)){args:List AV}{vargs:List Value}(ha:RepL (qlP W) args vargs)
  (h:(G args []).run=some (.bool true,[])):Calls P f vargs.toArray W fun e W'=>e=.returned (.bool true)∧Below W.heap.size W W':=by
 refine(hG.2 (qwg W) (qlP W) args vargs _ (qCt W) (qBD W) hgl ha h).mono fun e W' ⟨v,X',e1,e2,e3,e4,e5,_⟩=>?_
 subst e2
 refine⟨?_,e5.os,e5.tape,e5.output,e5.size,fun k hk=>e5.frame k hk (by simp[qwg])⟩
 rw[e1]
 cases e3;rfl
theorem qbt{i:FIn}{outs:List FOut}{T:List PV→TR}{args:List AV}{ps:List PV}(ho:outs=[{ res:=.bool,h:=[] }])(hi:i.take args []=some ps)(hT:(T ps).run=some (0,[.b true])) :
  (q9 i outs T args []).run=some (.bool true,[]):=by
 subst ho
 unfold q9
 rw[hi]
 simp only[Tree.run,okR,hT,Option.isSome_some]
 simp only[qBn,FOut.kinds,AP.kinds,BP.kindsL,List.append_nil,qlt,gB,pR,hT,List.getD_cons_zero,PV.toB,FOut.make,AP.make,BP.makeL,Tree.run]
theorem qb6{P:Program}{W:World}{E:Env}(hE:E.tok P)(hlay:E.tt.all (fun x=>qmT x.2)=true){name:String}{g n:Nat}{t:TypeId}{d:DataW Unit}{sh:List Sh}
  (hg:P.globalNamed name=some g) (hty:(P.globals[g]?).map (·.type)=some t) (hsh:E.shape n t=some sh) {ds:List (String×DataW Unit)} (h:laidMet P ds W) (hm:(name,d)∈ds) :
  qzG (qlP W) (g,.eptr sh [qeM d] 0 0):=by
 obtain⟨ps,hl,_⟩:=h
 have key:∀(ds:List (String×DataW Unit)) (ps:List MemPlace),DataW.LaidVars P W ds ps→(name,d)∈ds→∃cs fuel p,W.var? P name=some cs∧DataW.trod (fun _=>()) P W 0 (fun _=>true) false fuel t cs.toList=some (d,p):=by
  intro ds
  induction ds with
  | nil=>intro ps _ h;cases h
  | cons x ds ih=>
   intro ps hl hm
   obtain⟨nm,dd⟩:=x
   obtain⟨g',t',cs,fuel,p,q,h1,h2,h3,h4,h5,_⟩:=hl
   rcases List.mem_cons.1 hm with he|hm
   ·cases he
    obtain rfl:=Option.some.inj (hg.symm.trans h1)
    obtain rfl:=Option.some.inj (hty.symm.trans h2)
    exact⟨cs,fuel,p,h3,h4⟩
   ·exact ih q h5 hm
 obtain⟨cs,fuel,p,h3,h4⟩:=key ds ps hl hm
 have hc:=qvm hE hlay fuel n t _ d p sh hsh h4
 have hheap:∃T fr,W.heap[g]?=some (.cells cs T fr):=by
  unfold World.var? at h3
  rw[hg] at h3
  simp only[Option.bind_some] at h3
  split at h3
  ·rename_i cs' T fr he
   cases h3
   exact⟨T,fr,he⟩
  ·cases h3
 suffices hs:Rows (qlP W).w (qlP W).M sh [qeM d] ⟨g,0,none⟩ by
  refine⟨?_,?_,?_⟩
  ·have:=Rep.eptr (X:=qlP W) sh [qeM d] 0 0 ⟨g,0,none⟩ rfl (Int.le_refl _) (by simp) hs
   simpa using this
  ·obtain⟨T,fr,he⟩:=hheap
   exact(Array.getElem?_eq_some_iff.1 he).1
  ·have:=World.var?_cell hg h3 sh.length
   show W.cell? ⟨g,sh.length*1,none⟩=none
   rw[Nat.mul_one,this,Array.getElem?_eq_none]
   rw[←Array.length_toList,hc.len.2]
   exact Nat.le_refl _
 intro r j hj hr
 have hr0:r=0:=by simpa using hr
 subst hr0
 obtain⟨u,v,e1,e2,e3,_⟩:=hc.get j sh[j] (List.getElem?_eq_getElem hj)
 have hcell:W.cell? ⟨g,j,none⟩=some v:=by
  have:=World.var?_cell hg h3 j
  rw[this];simpa using e2
 refine⟨World.block_lt_of_cell? W ⟨g,j,none⟩ hcell,v,?_,?_⟩
 ·rw[Nat.zero_mul,Nat.add_zero,Nat.zero_add];exact hcell
 have:j5 [qeM d] (0:Nat) j=u:=by simp[j5,List.getD_eq_getElem?_getD,e1]
 rw[this];exact e3
theorem UFits.int{k:IntKind}{sh:List Sh}{us:List U}(h:UFits (.int k::sh) us):∃n us',us=.i n::us'∧k.min≤n∧n≤k.max∧UFits sh us':=by
 cases h with
 | cons h t=>cases h with
  | int k n h0 h1=>exact⟨n,_,rfl,h0,h1,t⟩
theorem UFits.bool{sh:List Sh}{us:List U}(h:UFits (.bool::sh) us):∃b us',us=.b b::us'∧UFits sh us':=by
 cases h with
 | cons h t=>cases h with
  | bool b=>exact⟨b,_,rfl,t⟩
theorem UFits.str{sh:List Sh}{us:List U}(h:UFits (.str::sh) us):∃s us',us=.s s::us'∧s.length≤maxLen∧UFits sh us':=by
 cases h with
 | cons h t=>cases h with
  | str s h0=>exact⟨s,_,rfl,h0,t⟩
theorem UFits.sl{row sh:List Sh}{us:List U}(h:UFits (.sl row::sh) us):∃l us',us=.l l::us'∧UFit (.sl row) (.l l)∧UFits sh us':=by
 cases h with
 | cons h t=>
  rename_i u us
  cases u with
  | l x=>exact⟨x,_,rfl,h,t⟩
  | _=>cases h
theorem UFits.none{us:List U}(h:UFits [] us):us=[]:=by cases h;rfl
end Go.Eng

namespace Go.Eng
theorem qdG{α:Type}(b:Bool)(t e:Tree α):(Tree.br b t e).run=if b=true then t.run else e.run:=by cases b<;>rfl
theorem q4a{α:Type}(a:α):(Tree.leaf a).run=some a:=rfl
theorem qzT{α:Type}:(Tree.fail:Tree α).run=none:=rfl
theorem qkK{R:TR}{x:Nat×List PV}(h:R.run=some x):okR R=true:=by simp[okR,h]
theorem qsN{R:TR}{j:Nat}{ps:List PV}(h:R.run=some (j,ps))(i:Nat):pR R i=ps.getD i (.i 0):=by simp[pR,h]
theorem wv{x y:Int}(h:-9223372036854775808≤x+y∧x+y≤9223372036854775807):qk .i64 x y=x+y:=by
 unfold qk IntKind.wrap
 simp[IntKind.signed,IntKind.bits];omega
theorem wA{x y:Int}(h:-9223372036854775808≤x-y∧x-y≤9223372036854775807):qB .i64 x y=x-y:=by
 unfold qB IntKind.wrap
 simp[IntKind.signed,IntKind.bits];omega
theorem yP{x y:Int}(h:-9223372036854775808≤x*y∧x*y≤9223372036854775807):jF .i64 x y=x*y:=by
 unfold jF IntKind.wrap
 simp[IntKind.signed,IntKind.bits];omega
theorem qjI(x y:Int):(ieq x y=true)=(x=y):=by simp[ieq]
theorem qmi(x y:Int):(ine x y=true)=(x≠y):=by simp[ine]
theorem qhT(x y:Int):(ilt x y=true)=(x<y):=by simp[ilt]
theorem q8A(x y:Int):(ile x y=true)=(x≤y):=by simp[ile]
theorem qns(x y:Bool):(Go.Eng.beq x y=true)=(x=y):=by simp[Go.Eng.beq]
theorem qu4{a b A B:Int}(h1:-A≤a)(h2:a≤A)(h3:-B≤b)(h4:b≤B):-(A*B)≤a*b∧a*b≤A*B:=by
 have e1:=Int.mul_nonneg (show 0≤A-a by omega) (show 0≤B-b by omega)
 have e2:=Int.mul_nonneg (show 0≤A+a by omega) (show 0≤B+b by omega)
 have e3:=Int.mul_nonneg (show 0≤A-a by omega) (show 0≤B+b by omega)
 have e4:=Int.mul_nonneg (show 0≤A+a by omega) (show 0≤B-b by omega)
 simp only[Int.sub_mul,Int.mul_sub,Int.add_mul,Int.mul_add] at e1 e2 e3 e4
 omega
theorem qtb{x:Int}(h:-9223372036854775807≤x∧x≤9223372036854775807):qB .i64 0 x=-x:=by
 rw[wA (by omega)];omega
theorem qzB{x:Int}(h:-9223372036854775808≤x∧x≤9223372036854775807):qmU .i64 x=x:=by
 unfold qmU IntKind.wrap
 simp[IntKind.signed,IntKind.bits];omega
theorem qzr(b:Bool):((!b)=true)=¬(b=true):=by cases b<;>simp
theorem qyY(x y:Bool):(qvg x y=true)=(x=true∧y=true):=by simp[qvg]
theorem qC0(i n:Int):(inb i n=true)=(0≤i∧i<n):=by simp[inb]
theorem qAy(i n:Int):(qaF i n=true)=(0≤i∧i≤n):=by simp[qaF]
theorem STD:(∀(α:Type) (b:Bool) (t e:Tree α),(Tree.br b t e).run=if b=true then t.run else e.run)∧(∀(α:Type) (a:α),(Tree.leaf a).run=some a)∧(∀(α:Type),(Tree.fail:Tree α).run=none) ∧
  (∀R:TR,okR R=R.run.isSome)∧(∀(α:Type) (a:α),(some a).isSome=true)∧(∀(R:TR) (i:Nat),gI R i=(pR R i).toI)∧(∀(R:TR) (i:Nat),gB R i=(pR R i).toB)∧(∀(R:TR) (i:Nat),gS R i=(pR R i).toS)∧(∀(R:TR) (i:Nat),gR R i=(pR R i).toR) ∧
  (∀(R:TR) (i:Nat),pR R i=R.run.elim (.i 0) fun r=>r.2.getD i (.i 0))∧(∀(α β:Type) (b:β) (f:α→β) (a:α),(some a).elim b f=f a) ∧
  (∀(a:PV) (l:List PV) (d:PV),(a::l).getD 0 d=a)∧(∀(a:PV) (l:List PV) (d:PV) (n:Nat),(a::l).getD (n+1) d=l.getD n d) ∧
  (∀n,(PV.i n).toI=n)∧(∀b,(PV.b b).toB=b)∧(∀s,(PV.s s).toS=s)∧(∀l,(PV.r l).toR=l) ∧
  (∀(α:Type) (h:Decidable True) (a b:α),@ite α True h a b=a)∧(∀(α:Type) (h:Decidable False) (a b:α),@ite α False h a b=b)∧((false=true)=False)∧((true=false)=False)∧((true=true)=True) ∧
  (∀x y,(ieq x y=true)=(x=y))∧(∀x y,(ine x y=true)=(x≠y))∧(∀x y,(ilt x y=true)=(x<y))∧(∀x y,(ile x y=true)=(x≤y))∧(∀x y,(Go.Eng.beq x y=true)=(x=y)) ∧
  (∀x y,(qvg x y=true)=(x=true∧y=true))∧(∀b:Bool,((!b)=true)=¬(b=true))∧(∀i n,(inb i n=true)=(0≤i∧i<n))∧(∀i n,(qaF i n=true)=(0≤i∧i≤n)) ∧
  (∀(p:Prop) (_:Decidable p),(decide p=true)=p)∧(∀(α:Type) (a b:α),(a≠b)=¬(a=b))∧(¬True)=False∧(¬False)=True:=
 ⟨fun _=>qdG,fun _=>q4a,fun _=>qzT,fun _=>rfl,fun _ _=>rfl,fun _ _=>rfl,fun _ _=>rfl,fun _ _=>rfl,fun _ _=>rfl,fun R i=>by unfold pR;cases R.run<;>rfl,fun _ _ _ _ _=>rfl,
  fun _ _ _=>rfl,fun _ _ _ _=>rfl,fun _=>rfl,fun _=>rfl,fun _=>rfl,fun _=>rfl,fun _ _ _ _=>by simp,fun _ _ _ _=>by simp,by simp,by simp,by simp,qjI,qmi,qhT,q8A,qns,
  qyY,qzr,qC0,qAy,fun _ _=>by simp,fun _ _ _=>rfl,by simp,by simp⟩
theorem qW{R:TR}{j:Nat}{ps:List PV}(h:R.run=some (j,ps))(i:Nat):(jIs R i=true)=(j=i):=by simp[jIs,jR,h]
theorem run_bind{α β:Type}(t:Tree α)(f:α→Tree β):(t.bind f).run=t.run.bind fun a=>(f a).run:=by
 induction t with
 | leaf a=>rfl
 | br b t e iht ihe=>cases b<;>simp[Tree.bind,Tree.run,iht,ihe]
 | fail=>rfl
theorem qfK{S:List PV→TR}{n:Nat}{ps qs:List PV}(h:(S ps).run=some (0,qs)):(qi9 S (n+1) ps).run=(qi9 S n qs).run:=by
 simp[qi9,run_bind,h]
theorem q6P{S:List PV→TR}{n j:Nat}{ps qs:List PV}(h:(S ps).run=some (j+1,qs)):(qi9 S (n+1) ps).run=some (j,qs):=by
 simp[qi9,run_bind,h,Tree.run]
def uz{α:Type}(f:Nat→Option α):Nat→Nat→Option α
 | _,0=>none
 | i,k+1=>match f i with
  | some a=>some a
  | none=>uz f (i+1) k
theorem qoK{S:List PV→TR}(st:Nat→List PV)(f:Nat→Option (Nat×List PV))(fin:Nat×List PV)(n:Nat)
  (h1:∀i,i<n→f i=none→(S (st i)).run=some (0,st (i+1))) (h2:∀i r,i<n→f i=some r→(S (st i)).run=some (r.1+1,r.2))
  (h3:(S (st n)).run=some (fin.1+1,fin.2)):∀(k i m:Nat),i+k=n→k<m→(qi9 S m (st i)).run=some ((uz f i k).getD fin)
 | 0,i,m,hi,hm=>by
  obtain⟨m,rfl⟩:∃m',m=m'+1:=⟨m-1,by omega⟩
  have:i=n:=by omega
  subst this
  rw[q6P h3];rfl
 | k+1,i,m,hi,hm=>by
  obtain⟨m,rfl⟩:∃m',m=m'+1:=⟨m-1,by omega⟩
  cases hf:f i with
  | none=>
   rw[qfK (h1 i (by omega) hf),qoK st f fin n h1 h2 h3 k (i+1) m (by omega) (by omega)]
   simp[uz,hf]
  | some r=>
   rw[q6P (h2 i r (by omega) hf)]
   simp[uz,hf]
theorem q76{S:List PV→TR}(st:Nat→List PV)(f:Nat→Option (Nat×List PV))(fin:Nat×List PV)(n:Nat)(hn:n<9223372036854775808)
  (h1:∀i,i<n→f i=none→(S (st i)).run=some (0,st (i+1))) (h2:∀i r,i<n→f i=some r→(S (st i)).run=some (r.1+1,r.2))
  (h3:(S (st n)).run=some (fin.1+1,fin.2)):(qj S (st 0)).run=some ((uz f 0 n).getD fin):=
 qoK st f fin n h1 h2 h3 n 0 qfp (by omega) (Nat.lt_trans hn (by unfold qfp;decide))
theorem wc{S:List PV→TR}(st:Nat→List PV)(fin:Nat×List PV)(n:Nat)(hn:n<9223372036854775808)
  (h1:∀i,i<n→(S (st i)).run=some (0,st (i+1))) (h3:(S (st n)).run=some (fin.1+1,fin.2)):(qj S (st 0)).run=some fin:=by
 have h:=q76 st (fun _=>none) fin n hn (fun i hi _=>h1 i hi) (fun i r _ h=>by cases h) h3
 have e:∀k i,uz (fun _=>(none:Option (Nat×List PV))) i k=none:=by
  intro k;induction k with
  | zero=>intro i;rfl
  | succ k ih=>intro i;simp[uz,ih]
 rw[e] at h;exact h
theorem q5i{α:Type}{f:Nat→Option α}:∀{k i:Nat},uz f i k=none→∀j,i≤j→j<i+k→f j=none
 | 0,i,_,j,h1,h2=>by omega
 | k+1,i,h,j,h1,h2=>by
  simp only[uz] at h
  cases hf:f i with
  | some a=>rw[hf] at h;cases h
  | none=>
   rw[hf] at h
   rcases Nat.eq_or_lt_of_le h1 with rfl|h1
   ·exact hf
   ·exact q5i h j h1 (by omega)
theorem q6m{α:Type}{f g:Nat→Option α}:∀{k i:Nat},(∀j,i≤j→j<i+k→f j=g j)→uz f i k=uz g i k
 | 0,i,_=>rfl
 | k+1,i,h=>by
  simp only[uz]
  rw[h i (by omega) (by omega),q6m (fun j h1 h2=>h j (by omega) (by omega))]
theorem qj6{α β:Type}(g:α→β){f:Nat→Option α}:∀{k i:Nat},uz (fun j=>(f j).map g) i k=(uz f i k).map g
 | 0,i=>rfl
 | k+1,i=>by
  simp only[uz]
  cases f i with
  | some a=>rfl
  | none=>exact qj6 g
theorem q1o{i n:Nat}(h:i<n)(hn:n<9223372036854775808):qk .i64 (i:Int) 1=((i+1:Nat):Int):=by
 rw[wv (by omega)];omega
theorem qec{α:Type}(n:Nat):∀i,uz (fun _=>(none:Option α)) i n=none:=by
 induction n with
 | zero=>intro i;rfl
 | succ n ih=>intro i;simp[uz,ih]
def pick(p:Nat→Bool):Nat→R
 | 0=>[]
 | n+1=>if p n then q3F (pick p n) [[.i (n:Int)]] else pick p n
theorem qcI(p:Nat→Bool):∀n,(pick p n).length≤n
 | 0=>Nat.le_refl _
 | n+1=>by
  have:=qcI p n
  unfold pick;split
  ·simp[q3F];omega
  ·omega
def q7S(f:Nat→Int)(i:Nat):Option Int:=if f i=0 then none else some (f i)
theorem qmO{f:Nat→Int}{n:Nat}(h:uz (q7S f) 0 n=none)(i:Nat)(hi:i<n):f i=0:=by
 have:=q5i h i (by omega) (by omega)
 unfold q7S at this;split at this
 ·assumption
 ·cases this
theorem qjh{f:Nat→Int}:∀{k i:Nat} {e:Int},uz (q7S f) i k=some e→e≠0
 | 0,i,e,h=>by cases h
 | k+1,i,e,h=>by
  simp only[uz] at h
  unfold q7S at h
  by_cases h0:f i=0
  ·rw[if_pos h0] at h;exact qjh h
  ·rw[if_neg h0] at h;simp at h;omega
def q42(e:Nat→Int)(n:Nat):Int:=(uz (q7S e) 0 n).getD 0
theorem qhz{e:Nat→Int}{n:Nat}(h:q42 e n=0)(i:Nat)(hi:i<n):e i=0:=by
 unfold q42 at h
 cases hs:uz (q7S e) 0 n with
 | none=>exact qmO hs i hi
 | some x=>rw[hs] at h;exact absurd h (qjh hs)
theorem qmp{e:Nat→Int}{n:Nat}(h:∀i,i<n→e i=0):q42 e n=0:=by
 unfold q42
 rw[q6m (g:=fun _=>none) (fun j _ hj=>by unfold q7S;rw[if_pos (h j (by omega))]),qec];rfl
theorem qa6{S:List PV→TR}(st:Nat→List PV)(e:Nat→Int)(caps fin:List PV)(n:Nat)(hn:n<9223372036854775808)
  (h:∀i,i<n→(S (st i)).run=if e i=0 then some (0,st (i+1)) else some (2,.i (e i)::caps)) (h3:(S (st n)).run=some (1,fin)) :
  (qj S (st 0)).run=some (if q42 e n=0 then (0,fin) else (1,.i (q42 e n)::caps)):=by
 have key:=q76 st (fun i=>(q7S e i).map fun x=>(1,PV.i x::caps)) (0,fin) n hn (fun i hi hf=>by
  rw[h i hi];unfold q7S at hf;split at hf
  ·rename_i h0;rw[if_pos h0]
  ·simp at hf) (fun i r hi hf=>by
  rw[h i hi];unfold q7S at hf;split at hf
  ·simp at hf
  ·rename_i h0;simp at hf;rw[if_neg h0,←hf]) h3
 rw[key,qj6]
 unfold q42
 cases hs:uz (q7S e) 0 n with
 | none=>simp
 | some x=>simp[qjh hs]
def qhn(g:Nat→List U)(n:Nat):R:=(List.range n).map g
theorem qbW(g:Nat→List U)(n:Nat):q3F (qhn g n) [g n]=qhn g (n+1):=by simp[q3F,qhn,List.range_succ]
theorem qfQ(g:Nat→List U)(n:Nat):(qhn g n).length=n:=by simp[qhn]
theorem qxg(g:Nat→List U)(n:Nat):qf (qhn g n)=n:=by simp[qf,qhn]
theorem qw8(g:Nat→List U){n i:Nat}(h:i<n)(j:Nat):j5 (qhn g n) (i:Int) j=(g i).getD j (.i 0):=by
 unfold j5 qhn
 simp[List.getD_eq_getElem?_getD,h]
theorem qsU(g:Nat→List U){n i:Nat}(h:i<n)(j:Nat):cI (qhn g n) (i:Int) j=((g i).getD j (.i 0)).toI:=by unfold cI;rw[qw8 g h]
theorem qwY{g:Nat→List U}{i n:Nat}{K:Int}(hi:i<n)(hn:(n:Int)≤K)(a:List U):qf (qhn g i)+qf [a]≤K:=by
 rw[qxg];show (i:Int)+1≤_;omega
theorem qcb{l:R}{i:Nat}(h:i<l.length):(i:Int)<qf l:=by unfold qf;omega
theorem qjP(l:R):¬((l.length:Int)<qf l):=by unfold qf;omega
theorem jT(i:Nat):(0:Int)≤(i:Int):=by omega
theorem quK(a:List U):qf [a]=1:=rfl
theorem qtG(l:R):0≤qf l:=by unfold qf;omega
end Go.Eng

namespace Go.Eng
def dch(d:Nat):UInt8:=UInt8.ofNat (48+d)
def dv(c:UInt8):Nat:=c.toNat-48
def qdu(s:List UInt8):Prop:=∀c,c∈s→48≤c.toNat∧c.toNat≤57
def val(s:List UInt8):Nat:=s.foldl (fun a c=>10*a+dv c) 0
def tNf:Nat→Nat→List UInt8
 | 0,_=>[]
 | f+1,n=>if n<10 then [dch n] else tNf f (n/10)++[dch (n%10)]
def tN(n:Nat):List UInt8:=tNf (n+1) n
def tI(n:Int):List UInt8:=if n<0 then 45::tN n.natAbs else tN n.natAbs
theorem qiq{d:Nat}(h:d<10):(dch d).toNat=48+d:=by
 unfold dch;rw[UInt8.toNat_ofNat'];omega
theorem qA3{d:Nat}(h:d<10):dv (dch d)=d:=by unfold dv;rw[qiq h];omega
theorem qAl{c:UInt8}(h1:48≤c.toNat)(h2:c.toNat≤57):dch (dv c)=c:=by
 apply UInt8.toNat_inj.1
 rw[qiq (by unfold dv;omega)];unfold dv;omega
theorem qvi(s:List UInt8)(c:UInt8):val (s++[c])=10*val s+dv c:=by simp[val,List.foldl_append]
theorem qnx:∀(t:List UInt8) (a:Nat),t.foldl (fun a c=>10*a+dv c) a=a*10^t.length+val t
 | [],a=>by simp[val]
 | c::t,a=>by
  have h1:=qnx t (10*a+dv c)
  have h2:=qnx t (10*0+dv c)
  have h3:val (c::t)=t.foldl (fun a c=>10*a+dv c) (10*0+dv c):=rfl
  rw[h3,h2,List.foldl_cons,h1,List.length_cons,Nat.pow_succ]
  grind
theorem qqB(s t:List UInt8):val (s++t)=val s*10^t.length+val t:=by
 have h:val (s++t)=t.foldl (fun a c=>10*a+dv c) (val s):=by simp[val,List.foldl_append]
 rw[h,qnx]
theorem qaD(c:UInt8)(t:List UInt8):val (c::t)=dv c*10^t.length+val t:=by
 have:=qqB [c] t
 simpa[val] using this
theorem qpG:val []=0:=rfl
theorem qtP(c:UInt8):val [c]=dv c:=by simp[val]
theorem qyW:qdu []:=fun c h=>by cases h
theorem q46{c:UInt8}{s:List UInt8}:qdu (c::s)↔(48≤c.toNat∧c.toNat≤57)∧qdu s:=by
 unfold qdu;simp
theorem qiW{s t:List UInt8}:qdu (s++t)↔qdu s∧qdu t:=by
 unfold qdu;simp only[List.mem_append]
 exact⟨fun h=>⟨fun c hc=>h c (.inl hc),fun c hc=>h c (.inr hc)⟩,fun h c hc=>hc.elim (h.1 c) (h.2 c)⟩
theorem qB5{c:UInt8}(h:48≤c.toNat∧c.toNat≤57):dv c<10:=by unfold dv;omega
theorem qeV:∀{s:List UInt8},qdu s→val s<10^s.length
 | [],_=>by simp[val]
 | c::s,h=>by
  obtain⟨h1,h2⟩:=q46.1 h
  have ih:=qeV h2
  have hd:=qB5 h1
  rw[qaD,List.length_cons,Nat.pow_succ]
  have:dv c*10^s.length≤9*10^s.length:=Nat.mul_le_mul_right _ (by omega)
  omega
theorem quE{d:Nat}(h:d<10):qdu [dch d]:=by
 intro c hc
 simp at hc;subst hc
 rw[qiq h];omega
theorem qAg:∀(f g n:Nat),n<f→n<g→tNf f n=tNf g n
 | 0,_,n,h,_=>by omega
 | _,0,n,_,h=>by omega
 | f+1,g+1,n,h1,h2=>by
  unfold tNf
  by_cases h:n<10
  ·rw[if_pos h,if_pos h]
  ·rw[if_neg h,if_neg h,qAg f g (n/10) (by omega) (by omega)]
theorem quq{n:Nat}(h:n<10):tN n=[dch n]:=by unfold tN tNf;rw[if_pos h]
theorem qwd{n:Nat}(h:10≤n):tN n=tN (n/10)++[dch (n%10)]:=by
 have:tN n=tNf n (n/10)++[dch (n%10)]:=by
  show tNf (n+1) n=_
  rw[tNf,if_neg (by omega)]
 rw[this,qAg n (n/10+1) (n/10) (by omega) (by omega)];rfl
theorem qqO(n:Nat):qdu (tN n)∧tN n≠[]∧val (tN n)=n:=by
 induction n using Nat.strongRecOn with
 | _ n ih=>
  by_cases h:n<10
  ·rw[quq h];exact⟨quE h,by simp,by rw[qtP,qA3 h]⟩
  ·rw[qwd (by omega)]
   obtain⟨h1,h2,h3⟩:=ih (n/10) (by omega)
   refine⟨qiW.2 ⟨h1,quE (by omega)⟩,by simp,?_⟩
   rw[qvi,h3,qA3 (by omega)];omega
theorem yT(n:Nat):qdu (tN n):=(qqO n).1
theorem qnp(n:Nat):tN n≠[]:=(qqO n).2.1
theorem q5J(n:Nat):val (tN n)=n:=(qqO n).2.2
theorem qlR(n:Nat):0<(tN n).length:=List.length_pos_iff.2 (qnp n)
theorem qbu:∀(k n:Nat),n<10^(k+1)→(tN n).length≤k+1
 | 0,n,h=>by rw[quq (by simpa using h)];simp
 | k+1,n,h=>by
  by_cases h10:n<10
  ·rw[quq h10];simp
  ·rw[qwd (by omega),List.length_append]
   have:=qbu k (n/10) (by rw[Nat.pow_succ] at h;omega)
   simp;omega
theorem qsK:∀(k n:Nat),10^k≤n→k<(tN n).length
 | 0,n,_=>qlR n
 | k+1,n,h=>by
  have hp:0<10^k:=Nat.pow_pos (by omega)
  rw[Nat.pow_succ] at h
  rw[qwd (by omega),List.length_append]
  have:=qsK k (n/10) (by omega)
  simp;omega
theorem qin{k n:Nat}(h:(tN n).length≤k):n<10^k:=by
 have:=qeV (yT n)
 rw[q5J] at this
 exact Nat.lt_of_lt_of_le this (Nat.pow_le_pow_right (by omega) h)
def qCI(s:List UInt8):Prop:=s.length=1∨s.getD 0 0≠48
theorem qv9{s:List UInt8}(hd:qdu s)(hn:s≠[])(h:s.getD 0 0≠48):10^(s.length-1)≤val s:=by
 cases s with
 | nil=>exact absurd rfl hn
 | cons c s=>
  obtain⟨h1,h2⟩:=q46.1 hd
  simp at h
  have hc:1≤dv c:=by
   unfold dv
   have:c.toNat≠48:=fun e=>h (UInt8.toNat_inj.1 (by simpa using e))
   omega
  rw[qaD,List.length_cons,Nat.add_sub_cancel]
  have:1*10^s.length≤dv c*10^s.length:=Nat.mul_le_mul_right _ hc
  omega
theorem qzX:∀(n:Nat) {s:List UInt8},s.length=n+1→qdu s→qCI s→tN (val s)=s
 | 0,s,hl,hd,_=>by
  match s,hl with
  | [c],_=>
   have h1:=(q46.1 hd).1
   rw[qtP,quq (qB5 h1),qAl h1.1 h1.2]
 | n+1,s,hl,hd,hz=>by
  obtain⟨i,c,rfl⟩:∃i c,s=i++[c]:=⟨s.dropLast,s.getLast (by intro h;simp[h] at hl),(List.dropLast_concat_getLast _).symm⟩
  have hil:i.length=n+1:=by simpa using hl
  obtain⟨h1,h2⟩:=qiW.1 hd
  have hc:=(q46.1 h2).1
  have hi:i≠[]:=by intro h;simp[h] at hil
  have hz0:i.getD 0 0≠48:=by
   rcases hz with hz|hz
   ·exact absurd (by simpa using hz) hi
   ·cases i with
    | nil=>exact absurd rfl hi
    | cons a i=>simpa using hz
  have hv:1≤val i:=Nat.le_trans (Nat.one_le_pow _ _ (by omega)) (qv9 h1 hi hz0)
  have hd10:=qB5 hc
  rw[qvi,qwd (n:=10*val i+dv c) (by omega),show (10*val i+dv c)/10=val i by omega,show (10*val i+dv c)%10=dv c by omega,qAl hc.1 hc.2,qzX n hil h1 (.inr hz0)]
theorem qty{s:List UInt8}(hd:qdu s)(hn:s≠[])(hz:qCI s):s=tN (val s):=
 (qzX (s.length-1) (by have:=List.length_pos_iff.2 hn;omega) hd hz).symm
theorem quX{m n:Nat}(h:tN m=tN n):m=n:=by rw[←q5J m,h,q5J]
theorem qwT(n:Nat):qCI (tN n):=by
 induction n using Nat.strongRecOn with
 | _ n ih=>
  by_cases h:n<10
  ·rw[quq h];exact .inl rfl
  ·rw[qwd (by omega)]
   right
   by_cases h2:n/10<10
   ·rw[quq h2]
    intro e
    have:(dch (n/10)).toNat=48:=by
     have e':dch (n/10)=48:=by simpa using e
     rw[e'];rfl
    rw[qiq h2] at this;omega
   ·have h3:(tN (n/10)).length≠1:=by
     have:=qsK 1 (n/10) (by omega);omega
    rcases ih (n/10) (by omega) with h4|h4
    ·exact absurd h4 h3
    ·cases hq:tN (n/10) with
     | nil=>exact absurd hq (qnp _)
     | cons a i=>rw[hq] at h4;simpa using h4
theorem qAz(t:List UInt8):slt [] t=!t.isEmpty:=by cases t<;>rfl
theorem qzS(a b:UInt8)(s t:List UInt8):slt (a::s) (b::t)=(decide (a<b)||(a==b&&slt s t)):=by
 unfold slt
 simp only[Op.bytesLess]
theorem qt9:∀{s t:List UInt8},qdu s→qdu t→s.length=t.length→((slt s t=true)=(val s<val t))
 | [],[],_,_,_=>by simp[qAz,qpG]
 | a::s,b::t,h1,h2,hl=>by
  obtain⟨ha,hs⟩:=q46.1 h1
  obtain⟨hb,ht⟩:=q46.1 h2
  have hl':s.length=t.length:=by simpa using hl
  have ih:=qt9 hs ht hl'
  have v1:=qeV hs
  have v2:=qeV ht
  rw[qzS,qaD,qaD,hl']
  rw[hl'] at v1
  have hab:(a<b)=(dv a<dv b):=by
   unfold dv;rw[UInt8.lt_iff_toNat_lt];simp only[eq_iff_iff];omega
  have hab2:(a=b)=(dv a=dv b):=by
   unfold dv;rw[←UInt8.toNat_inj];simp only[eq_iff_iff];omega
  simp only[Bool.or_eq_true,decide_eq_true_eq,Bool.and_eq_true,beq_iff_eq,eq_iff_iff,ih,hab,hab2]
  generalize 10^t.length=p at *
  generalize dv a=x at *
  generalize dv b=y at *
  constructor
  ·rintro (h|⟨rfl,h⟩)
   ·have:=Nat.mul_le_mul_right p (show x+1≤y by omega)
    rw[Nat.add_mul] at this;omega
   ·omega
  ·intro h
   rcases Nat.lt_trichotomy x y with h3|h3|h3
   ·exact .inl h3
   ·subst h3;exact .inr ⟨rfl,by omega⟩
   ·have:=Nat.mul_le_mul_right p (show y+1≤x by omega)
    rw[Nat.add_mul] at this;omega
theorem qcn{m n:Nat}(h:m≤n):(tN m).length≤(tN n).length:=by
 rcases Nat.lt_or_ge (tN n).length (tN m).length with h1|h1
 ·have h2:=qin (Nat.le_refl (tN n).length)
  have h3:0<(tN n).length:=qlR n
  have:=qbu ((tN n).length-1) m (by rw[Nat.sub_add_cancel h3];omega)
  omega
 ·exact h1
theorem qxs(m n:Nat):((tN m).length<(tN n).length∨(tN m).length=(tN n).length∧slt (tN m) (tN n)=true)↔m<n:=by
 constructor
 ·rintro (h|⟨h1,h2⟩)
  ·rcases Nat.lt_or_ge m n with h3|h3
   ·exact h3
   ·have:=qcn h3;omega
  ·rw[qt9 (yT m) (yT n) h1,q5J,q5J] at h2;exact h2
 ·intro h
  have h1:=qcn (Nat.le_of_lt h)
  rcases Nat.lt_or_ge (tN m).length (tN n).length with h3|h3
  ·exact .inl h3
  ·have h4:(tN m).length=(tN n).length:=by omega
   exact .inr ⟨h4,by rw[qt9 (yT m) (yT n) h4,q5J,q5J];exact h⟩
theorem qz6(s:List UInt8):val (48::s)=val s:=by rw[qaD];simp[dv]
theorem qyI(n:Nat)(s:List UInt8):val (List.replicate n 48++s)=val s:=by
 induction n with
 | zero=>rfl
 | succ n ih=>rw[List.replicate_succ,List.cons_append,qz6,ih]
theorem qw5(n:Nat):qdu (List.replicate n 48):=by
 intro c hc
 rw[(List.mem_replicate.1 hc).2];decide
def rI(l:List Int):R:=l.map fun v=>[.i v]
theorem qCL(l:List Int)(i:Int):cI (rI l) i 0=l.getD i.toNat 0:=by
 unfold cI j5 rI
 simp only[List.getD_eq_getElem?_getD,List.getElem?_map]
 cases l[i.toNat]?<;>rfl
theorem qwl(x v:U):qrd [x] 0 [v]=[v]:=rfl
theorem qBE(l:List Int)(i v:Int):qe7 (rI l) i 0 [.i v]=rI (l.set i.toNat v):=by
 unfold qe7 rI
 apply List.ext_getElem?
 intro j
 by_cases hj:j=i.toNat
 ·subst hj
  by_cases hl:i.toNat<l.length
  ·simp[hl,List.getD_eq_getElem?_getD,qwl]
  ·rw[List.getElem?_eq_none (by simp;omega),List.getElem?_eq_none (by simp;omega)]
 ·rw[List.getElem?_set_ne (Ne.symm hj),List.getElem?_map,List.getElem?_map,List.getElem?_set_ne (Ne.symm hj)]
theorem qqE(n v:Int):q6p n [.i v]=rI (List.replicate n.toNat v):=by simp[q6p,rI]
theorem qAx{s:List UInt8}{i:Nat}(h:i<s.length):sat s (i:Int)=(s[i].toNat:Int):=by
 unfold sat
 simp[List.getD_eq_getElem?_getD,h]
theorem yN(s t:List UInt8):(seq s t=true)=(s=t):=by simp[seq]
theorem qBw{x:Int}(h:0≤x∧x≤255):qmU .u8 x=x:=by
 unfold qmU IntKind.wrap
 simp[IntKind.signed,IntKind.bits];omega
theorem qzq(a b:Nat):qou (a:Int) (b:Int)=((a%b:Nat):Int):=by
 unfold qou;rw[Int.tmod_eq_emod_of_nonneg (by omega)];rfl
theorem q8l{S:List PV→TR}(I:Nat→List PV→Prop)(Q:Nat→List PV→Prop){n:Nat}(hn:n<9223372036854775808)
  (h:∀k ps,k≤n→I k ps→(∃k' qs,k'<k∧(S ps).run=some (0,qs)∧I k' qs)∨∃j qs,(S ps).run=some (j+1,qs)∧Q j qs) {ps:List PV} (h0:I n ps):∃j qs,(qj S ps).run=some (j,qs)∧Q j qs:=by
 have key:∀m k ps,k≤n→k<m→I k ps→∃j qs,(qi9 S m ps).run=some (j,qs)∧Q j qs:=by
  intro m
  induction m with
  | zero=>intro k ps _ h;omega
  | succ m ih=>
   intro k ps hk hm hI
   rcases h k ps hk hI with⟨k',qs,h1,h2,h3⟩|⟨j,qs,h1,h2⟩
   ·obtain⟨j,rs,g1,g2⟩:=ih k' qs (by omega) (by omega) h3
    exact⟨j,rs,by rw[qfK h2];exact g1,g2⟩
   ·exact⟨j,qs,q6P h1,h2⟩
 exact key qfp n ps (Nat.le_refl _) (Nat.lt_trans hn (by unfold qfp;decide)) h0
end Go.Eng

namespace Go.Eng
theorem qdN{m:Int}(h:m<0):tI m=45::tN m.natAbs:=by unfold tI;rw[if_pos h]
theorem qjr{m:Int}(h:¬m<0):tI m=tN m.natAbs:=by unfold tI;rw[if_neg h]
theorem qfz(n:Nat):tI (n:Int)=tN n:=by rw[qjr (by omega)];rfl
theorem qfM{s:List UInt8}(hd:qdu s)(hn:s≠[]):∃c t,s=c::t∧48≤c.toNat∧c.toNat≤57:=by
 cases s with
 | nil=>exact absurd rfl hn
 | cons c t=>exact⟨c,t,rfl,(q46.1 hd).1⟩
theorem qA2(m:Int):(tI m).length≤(tN m.natAbs).length+1:=by unfold tI;split<;>simp
theorem qs3(m:Int):0<(tI m).length:=by
 have:=qlR m.natAbs
 unfold tI;split<;>simp<;>omega
theorem qvr{m n:Int}(h:tI m=tI n):m=n:=by
 have key:∀{m n:Int},m<0→¬n<0→tI m≠tI n:=by
  intro m n h1 h2 e
  rw[qdN h1,qjr h2] at e
  obtain⟨c,t,hc,h3,h4⟩:=qfM (yT n.natAbs) (qnp _)
  rw[hc] at e
  have:=(List.cons.inj e).1
  rw[←this] at h3
  exact absurd h3 (by decide)
 by_cases h1:m<0<;>by_cases h2:n<0
 ·rw[qdN h1,qdN h2] at h
  have:=quX (List.cons.inj h).2
  omega
 ·exact absurd h (key h1 h2)
 ·exact absurd h.symm (key h2 h1)
 ·rw[qjr h1,qjr h2] at h
  have:=quX h
  omega
theorem qAn(m:Int):(sat (tI m) 0=45)=(m<0):=by
 by_cases h:m<0
 ·rw[qdN h];simp[sat,h]
 ·rw[qjr h]
  obtain⟨c,t,hc,h3,h4⟩:=qfM (yT m.natAbs) (qnp _)
  rw[hc]
  simp[sat,h];omega
theorem qys{s:List UInt8}(h:qdu s)(i:Nat):qdu (s.take i):=fun c hc=>h c (List.mem_of_mem_take hc)
theorem qyb{s:List UInt8}(h:qdu s)(i:Nat):qdu (s.drop i):=fun c hc=>h c (List.mem_of_mem_drop hc)
theorem qzx{d:Int}(h0:0≤d)(h:d<10):qBl [[.i (qmU .u8 (qk .i64 48 d))]]=[dch d.toNat]:=by
 rw[wv (by omega),qBw (by omega)]
 show [UInt8.ofNat (48+d).toNat]=[UInt8.ofNat (48+d.toNat)]
 rw[show (48+d).toNat=48+d.toNat by omega]
theorem of_le{a:Nat}{r:List UInt8}(ha:a<10)(hr:r.length≤1000):wl (qBl [[(.i (qmU .u8 (qk .i64 48 (a:Int))))]])+wl r≤140737488355328:=by
 rw[qzx (by omega) (by omega)]
 show (1:Int)+(r.length:Int)≤_;omega
end Go.Eng

namespace Go.Eng
theorem quu(a b:Nat):qiz (a:Int) (b:Int)=((max a b:Nat):Int):=by unfold qiz;split<;>omega
theorem qBi(m n:Nat):(tN (m+n)).length≤max (tN m).length (tN n).length+1:=by
 have h1:=qeV (yT m)
 have h2:=qeV (yT n)
 rw[q5J] at h1 h2
 have p1:10^(tN m).length≤10^(max (tN m).length (tN n).length):=Nat.pow_le_pow_right (by omega) (by omega)
 have p2:10^(tN n).length≤10^(max (tN m).length (tN n).length):=Nat.pow_le_pow_right (by omega) (by omega)
 exact qbu _ _ (by rw[Nat.pow_succ];omega)
theorem qtd(m n:Nat):(tN (m*n)).length≤(tN m).length+(tN n).length:=by
 have h1:=qeV (yT m)
 have h2:=qeV (yT n)
 rw[q5J] at h1 h2
 have h3:=qlR m
 have h4:=qlR n
 have:m*n<10^((tN m).length+(tN n).length):=by
  rw[Nat.pow_add]
  exact Nat.mul_lt_mul'' h1 h2
 have:=qbu ((tN m).length+(tN n).length-1) (m*n) (by rwa [show (tN m).length+(tN n).length-1+1=(tN m).length+(tN n).length by omega])
 omega
def nl(m:Int):Nat:=(tN m.natAbs).length
theorem qn2(m:Int):0<nl m:=qlR _
theorem qxT(m:Int):nl (-m)=nl m:=by unfold nl;rw[Int.natAbs_neg]
theorem quG(m n:Int):nl (m+n)≤max (nl m) (nl n)+1:=by
 unfold nl
 exact Nat.le_trans (qcn (Int.natAbs_add_le m n)) (qBi _ _)
theorem q4L(m n:Int):nl (m*n)≤nl m+nl n:=by
 unfold nl;rw[Int.natAbs_mul];exact qtd _ _
theorem qBv{m:Int}{k:Nat}(h:nl m≤k):m.natAbs<10^k:=qin h
def sgn(n:Int):Int:=if n<0 then -1 else if n=0 then 0 else 1
end Go.Eng

namespace Go.Eng
theorem yW{l:List Int}{j:Nat}(h:j<l.length):l.getD j 0=l[j]:=by simp[List.getD_eq_getElem?_getD,h]
end Go.Eng

namespace Go.Eng
theorem qwj(m:Int){n:Int}(hn:n≠0):n*m.tdiv n+qou m n=m∧(qou m n).natAbs<n.natAbs∧(0≤m→0≤qou m n)∧(m≤0→qou m n≤0):=by
 unfold qou
 refine⟨Int.mul_tdiv_add_tmod m n,?_,fun h=>Int.tmod_nonneg n h,fun h=>?_⟩
 ·rw[Int.natAbs_tmod]
  exact Nat.mod_lt _ (by omega)
 ·have:=Int.tmod_nonneg n (show 0≤-m by omega)
  rw[Int.neg_tmod] at this
  omega
end Go.Eng

namespace Go.Eng
theorem qvF{n t:Int}(hn:n≠0)(h:-9223372036854775808≤t∧t≤9223372036854775807):kn .i64 (n*t) n=t:=by
 unfold kn
 rw[Int.mul_tdiv_cancel_left _ hn]
 unfold IntKind.wrap
 simp[IntKind.signed,IntKind.bits];omega
theorem qCi:tI 1=[49]:=rfl
end Go.Eng

namespace Go.Eng
def eM(a b:Nat):Nat:=if b=0 then 0 else Nat.log2 (a*b)+1+if a<b then 1 else 0
theorem qxS{m n:Nat}(h:m≤n):Nat.log2 m≤Nat.log2 n:=by
 by_cases hm:m=0
 ·subst hm;simp
 ·rcases Nat.lt_or_ge (Nat.log2 n) (Nat.log2 m) with h1|h1
  ·have:=(Nat.log2_lt (show n≠0 by omega)).1 h1
   have h2:=Nat.log2_self_le hm
   omega
  ·exact h1
theorem qBh{a b:Nat}(hb:b≠0):eM b (a%b)<eM a b:=by
 have hlt:=Nat.mod_lt a (show 0<b by omega)
 unfold eM
 rw[if_neg hb]
 by_cases hr:a%b=0
 ·rw[if_pos hr];omega
 ·rw[if_neg hr,if_neg (show ¬b<a%b by omega)]
  by_cases hab:a<b
  ·rw[if_pos hab,Nat.mod_eq_of_lt hab,Nat.mul_comm b a];omega
  ·rw[if_neg hab]
   have hd:=Nat.div_add_mod a b
   have hq:1≤a/b:=(Nat.le_div_iff_mul_le (by omega)).2 (by omega)
   have h1:b*1≤b*(a/b):=Nat.mul_le_mul_left _ hq
   have h2:2*(b*(a%b))≤a*b:=by
    have:2*(a%b)≤a:=by omega
    have:=Nat.mul_le_mul_right b this
    rw[Nat.mul_assoc,Nat.mul_comm (a%b) b] at this
    exact this
   have h3:=qxS h2
   have h4:Nat.log2 (2*(b*(a%b)))=Nat.log2 (b*(a%b))+1:=by
    apply Nat.log2_two_mul
    exact Nat.mul_ne_zero hb hr
   omega
theorem qyp{x k j:Nat}(h:(tN x).length≤k)(hj:4*k=j):x<2^j:=by
 have h3:x<10^k:=qin h
 have h4:(10:Nat)^k≤16^k:=Nat.pow_le_pow_left (by omega) _
 have h5:(16:Nat)^k=2^j:=by rw[show (16:Nat)=2^4 from rfl,←Nat.pow_mul,hj]
 rw[h5] at h4
 exact Nat.lt_of_lt_of_le h3 h4
theorem qzP{a b:Nat}(ha:(tN a).length≤400000)(hb:(tN b).length≤400000):eM a b<9223372036854775808:=by
 unfold eM
 have h1:=qtd a b
 by_cases h0:a*b=0
 ·rw[h0];simp;split<;>(try split)<;>omega
 ·obtain⟨j,hj⟩:∃j,j=3200000:=⟨_,rfl⟩
  have h2:a*b<2^j:=qyp (k:=800000) (by omega) (by omega)
  have:=(Nat.log2_lt h0).2 h2
  split<;>(try split)<;>omega
def mag(s:List UInt8):List UInt8:=if s.getD 0 0=45 then s.drop 1 else s
theorem qrL(m:Int):mag (tI m)=tN m.natAbs:=by
 unfold mag
 by_cases h:m<0
 ·rw[qdN h];simp
 ·rw[qjr h]
  obtain⟨c,t,e,h1,h2⟩:=qfM (yT m.natAbs) (qnp _)
  rw[e]
  simp only[List.getD_cons_zero]
  rw[if_neg]
  intro hc;subst hc;revert h1;decide
theorem qyu(s:List UInt8):(∃m:Int,s=tI m)↔mag s≠[]∧qdu (mag s)∧((mag s).getD 0 0=48→s.length=1):=by
 constructor
 ·rintro ⟨m,rfl⟩
  rw[qrL]
  refine⟨qnp _,yT _,fun h=>?_⟩
  rcases qwT m.natAbs with h1|h1
  ·have h2:=qqO m.natAbs
   have hv:m.natAbs=0:=by
    obtain⟨c,e⟩:∃c,tN m.natAbs=[c]:=List.length_eq_one_iff.1 h1
    rw[e] at h
    simp at h
    have:=q5J m.natAbs
    rw[e,h] at this
    simpa[val,dv] using this.symm
   have hm0:m=0:=by omega
   rw[hm0];rfl
  ·exact absurd h h1
 ·rintro ⟨h1,h2,h3⟩
  by_cases h45:s.getD 0 0=45
  ·have hm:mag s=s.drop 1:=by unfold mag;rw[if_pos h45]
   obtain⟨c,t,rfl⟩:∃c t,s=c::t:=by
    cases s with
    | nil=>simp at h45
    | cons c t=>exact⟨c,t,rfl⟩
   simp at h45
   subst h45
   rw[hm] at h1 h2 h3
   simp only[List.drop_succ_cons,List.drop_zero] at h1 h2 h3
   have h4:t.getD 0 0≠48:=fun h=>by
    have:=h3 h
    simp at this
    exact h1 this
   have hv:=qv9 h2 h1 h4
   have hp:0<10^(t.length-1):=Nat.pow_pos (by omega)
   refine⟨-((val t:Nat):Int),?_⟩
   rw[qdN (by omega)]
   simp only[Int.natAbs_neg,Int.natAbs_natCast]
   rw[←qty h2 h1 (.inr h4)]
  ·have hm:mag s=s:=by unfold mag;rw[if_neg h45]
   rw[hm] at h1 h2 h3
   refine⟨((val s:Nat):Int),?_⟩
   rw[qfz]
   refine qty h2 h1 ?_
   by_cases h4:s.getD 0 0=48
   ·exact .inl (h3 h4)
   ·exact .inr h4
open Classical in
noncomputable def qvl(s:List UInt8):Int:=if ∃m:Int,s=tI m then (if (mag s).length≤1024 then 0 else 11) else 3
end Go.Eng

namespace Go.Eng
def tQ(q:Rat):List UInt8:=if q.den=1 then tI q.num else tI q.num++47::tN q.den
def dl(n:Nat):Nat:=(tN n).length
def qn(q:Rat):Nat:=nl q.num
def qd(q:Rat):Nat:=dl q.den
theorem qyr{s:List UInt8}(h:qdu s):∀c,c∈s→c≠47:=fun c hc e=>by
 have:=h c hc
 rw[e] at this
 revert this;decide
theorem qo5(m:Int):∀c,c∈tI m→c≠47:=by
 intro c hc
 unfold tI at hc
 split at hc
 ·rcases List.mem_cons.1 hc with rfl|hc
  ·decide
  ·exact qyr (yT _) c hc
 ·exact qyr (yT _) c hc
theorem qvd:∀{s s' t t':List UInt8},(∀c,c∈s→c≠47)→(∀c,c∈s'→c≠47)→s++47::t=s'++47::t'→s=s'∧t=t'
 | [],[],t,t',_,_,h=>⟨rfl,by simpa using h⟩
 | [],c::s',t,t',_,h2,h=>by
  simp only[List.nil_append,List.cons_append,List.cons.injEq] at h
  exact absurd h.1.symm (h2 c List.mem_cons_self)
 | c::s,[],t,t',h1,_,h=>by
  simp only[List.nil_append,List.cons_append,List.cons.injEq] at h
  exact absurd h.1 (h1 c List.mem_cons_self)
 | c::s,c'::s',t,t',h1,h2,h=>by
  simp only[List.cons_append,List.cons.injEq] at h
  obtain⟨e1,e2⟩:=qvd (fun c hc=>h1 c (List.mem_cons_of_mem _ hc)) (fun c hc=>h2 c (List.mem_cons_of_mem _ hc)) h.2
  exact⟨by rw[h.1,e1],e2⟩
theorem qak{q:Rat}(h:q.den=1):tQ q=tI q.num:=by unfold tQ;rw[if_pos h]
theorem q68{q:Rat}(h:q.den≠1):tQ q=tI q.num++47::tN q.den:=by unfold tQ;rw[if_neg h]
theorem qBx{a b:Rat}(h:tQ a=tQ b):a=b:=by
 by_cases ha:a.den=1<;>by_cases hb:b.den=1
 ·rw[qak ha,qak hb] at h
  exact Rat.ext (qvr h) (ha.trans hb.symm)
 ·rw[qak ha,q68 hb] at h
  exact absurd rfl (qo5 a.num 47 (by rw[h];simp))
 ·rw[q68 ha,qak hb] at h
  exact absurd rfl (qo5 b.num 47 (by rw[←h];simp))
 ·rw[q68 ha,q68 hb] at h
  obtain⟨e1,e2⟩:=qvd (qo5 _) (qo5 _) h
  exact Rat.ext (qvr e1) (quX e2)
theorem qwb(a b:Rat):(tQ a=tQ b)=(a=b):=propext ⟨qBx,fun h=>by rw[h]⟩
theorem qxy(m:Int):tQ (m:Rat)=tI m:=qak (by simp)
theorem qzi(n:Nat):tQ (OfNat.ofNat n:Rat)=tN n:=by
 rw[qak (by simp)]
 simp only[Rat.num_ofNat]
 exact qfz n
theorem qer{m n:Int}(h:m.natAbs≤n.natAbs):nl m≤nl n:=qcn h
theorem qyx{m n:Nat}(h:m≤n):dl m≤dl n:=qcn h
theorem qyF(n:Nat):nl (n:Int)=dl n:=rfl
theorem qxb(m n:Nat):dl (m*n)≤dl m+dl n:=qtd m n
theorem qy0(m n:Int):nl (m-n)≤max (nl m) (nl n)+1:=by
 rw[Int.sub_eq_add_neg]
 have:=quG m (-n)
 rwa [qxT] at this
theorem q9T(N:Int)(D:Nat):nl (mkRat N D).num≤nl N∧dl (mkRat N D).den≤dl D:=by
 rw[Rat.num_mkRat,Rat.den_mkRat]
 by_cases h:D=0
 ·rw[if_pos h,if_pos h,h]
  exact⟨qer (by simp),by decide⟩
 ·rw[if_neg h,if_neg h]
  exact⟨qer (Int.natAbs_ediv_le_natAbs _ _),qyx (Nat.div_le_self _ _)⟩
theorem qA5(a b:Rat):qn (a*b)≤qn a+qn b:=by
 unfold qn
 rw[Rat.mul_def']
 exact Nat.le_trans (q9T _ _).1 (q4L _ _)
theorem qzW(a b:Rat):qd (a*b)≤qd a+qd b:=by
 unfold qd
 rw[Rat.mul_def']
 exact Nat.le_trans (q9T _ _).2 (qxb _ _)
theorem qBG(a b:Rat):qn (a+b)≤max (qn a+qd b) (qn b+qd a)+1:=by
 unfold qn qd
 rw[Rat.add_def']
 have h1:=(q9T (a.num*b.den+b.num*a.den) (a.den*b.den)).1
 have h2:=quG (a.num*b.den) (b.num*a.den)
 have h3:=q4L a.num b.den
 have h4:=q4L b.num a.den
 rw[qyF] at h3 h4
 omega
theorem qBJ(a b:Rat):qd (a+b)≤qd a+qd b:=by
 unfold qd
 rw[Rat.add_def']
 exact Nat.le_trans (q9T _ _).2 (qxb _ _)
theorem qC1(a b:Rat):qn (a-b)≤max (qn a+qd b) (qn b+qd a)+1:=by
 unfold qn qd
 rw[Rat.sub_def']
 have h1:=(q9T (a.num*b.den-b.num*a.den) (a.den*b.den)).1
 have h2:=qy0 (a.num*b.den) (b.num*a.den)
 have h3:=q4L a.num b.den
 have h4:=q4L b.num a.den
 rw[qyF] at h3 h4
 omega
theorem qBo(a b:Rat):qd (a-b)≤qd a+qd b:=by
 unfold qd
 rw[Rat.sub_def']
 exact Nat.le_trans (q9T _ _).2 (qxb _ _)
theorem qCc(a:Rat):qn (-a)=qn a:=by unfold qn;rw[Rat.neg_num,qxT]
theorem qnP(a:Rat):0<qn a:=qn2 _
theorem quA(a:Rat):0<qd a:=qlR _
theorem qBU{a:Rat}(h:a≠0):qn a⁻¹≤qd a:=by
 unfold qn qd
 rw[Rat.num_inv,←qyF]
 apply qer
 rw[Int.natAbs_mul,Int.natAbs_sign_of_ne_zero (by rwa [Ne,Rat.num_eq_zero])]
 simp
theorem qBS{a:Rat}(h:a≠0):qd a⁻¹≤qn a:=by
 unfold qn qd
 rw[Rat.den_inv,if_neg (by rwa [Rat.num_eq_zero])]
 exact Nat.le_refl _
theorem qBC(a:Rat){b:Rat}(h:b≠0):qn (a/b)≤qn a+qd b:=by
 rw[Rat.div_def]
 exact Nat.le_trans (qA5 _ _) (Nat.add_le_add_left (qBU h) _)
theorem qBO(a:Rat){b:Rat}(h:b≠0):qd (a/b)≤qd a+qn b:=by
 rw[Rat.div_def]
 exact Nat.le_trans (qzW _ _) (Nat.add_le_add_left (qBS h) _)
def sgq(q:Rat):Int:=sgn q.num
theorem qcB{m k:Int}(hk:0<k):sgn (m*k)=sgn m:=by
 unfold sgn
 rcases Int.lt_trichotomy m 0 with h|h|h
 ·have:=Int.mul_neg_of_neg_of_pos h hk
  rw[if_pos h,if_pos this]
 ·subst h;simp
 ·have:=Int.mul_pos h hk
  rw[if_neg (by omega),if_neg (by omega),if_neg (by omega),if_neg (by omega)]
theorem qAD(m:Int):sgn (-m)=-sgn m:=by
 unfold sgn
 rcases Int.lt_trichotomy m 0 with h|h|h
 ·rw[if_pos h,if_neg (by omega),if_neg (by omega)];rfl
 ·subst h;rfl
 ·rw[if_pos (by omega),if_neg (by omega),if_neg (by omega)]
theorem qur{q:Rat}(h:0<q):sgq q=1:=by
 unfold sgq sgn
 have h1:0≤q.num:=Rat.num_nonneg.2 (Rat.le_of_lt h)
 have h2:q.num≠0:=fun e=>by rw[Rat.num_eq_zero] at e;rw[e] at h;exact Rat.lt_irrefl h
 rw[if_neg (by omega),if_neg h2]
theorem qxt(q:Rat):sgq (-q)=-sgq q:=by unfold sgq;rw[Rat.neg_num,qAD]
theorem qAk{q:Rat}(h:q<0):sgq q=-1:=by
 have h1:0 < -q:=by grind
 have:=qur h1
 rw[qxt] at this
 omega
theorem qbI(q:Rat):(q<0∧sgq q=-1)∨(q=0∧sgq q=0)∨(0<q∧sgq q=1):=by
 by_cases h1:q<0
 ·exact .inl ⟨h1,qAk h1⟩
 ·by_cases h2:q=0
  ·exact .inr (.inl ⟨h2,by rw[h2];rfl⟩)
  ·exact .inr (.inr ⟨by grind,qur (by grind)⟩)
theorem qkc(q:Rat):(sgq q≤0)=(q≤0):=by
 rcases qbI q with⟨h,e⟩|⟨h,e⟩|⟨h,e⟩<;>rw[e]<;>simp<;>grind
end Go.Eng

namespace Go.Eng
def sP(s:List UInt8):Nat:=s.findIdx (·==47)
def spn(s:List UInt8):List UInt8:=s.take (sP s)
def spd(s:List UInt8):List UInt8:=if sP s<s.length then s.drop (sP s+1) else [49]
theorem qB7(s:List UInt8):sP s≤s.length:=List.findIdx_le_length
theorem qBY{s:List UInt8}{i:Nat}(h:i<s.length)(h1:s[i]=47)(h2:∀j (hj:j<i),s[j]≠47):sP s=i:=by
 unfold sP
 rw[List.findIdx_eq h]
 exact⟨by simp[h1],fun j hj=>by simp[h2 j hj]⟩
theorem qtO{s:List UInt8}(h:∀c,c∈s→c≠47):sP s=s.length:=by
 unfold sP
 rw[List.findIdx_eq_length]
 intro x hx
 simpa using h x hx
theorem qxI{s t:List UInt8}(h:∀c,c∈s→c≠47):sP (s++47::t)=s.length:=by
 apply qBY (by simp)
 ·simp
 ·intro j hj
  rw[List.getElem_append_left hj]
  exact h _ (List.getElem_mem hj)
theorem qAb(q:Rat):spn (tQ q)=tI q.num:=by
 unfold spn
 by_cases h:q.den=1
 ·rw[qak h,qtO (qo5 _),List.take_length]
 ·rw[q68 h,qxI (qo5 _)];simp
theorem qAm(q:Rat):spd (tQ q)=tN q.den:=by
 unfold spd
 by_cases h:q.den=1
 ·rw[qak h,qtO (qo5 _),if_neg (Nat.lt_irrefl _),h];rfl
 ·rw[q68 h,qxI (qo5 _),if_pos (by simp)];simp
theorem qBV(q:Rat):(tQ q).length≤qn q+qd q+2:=by
 have h1:=qA2 q.num
 unfold qn qd nl dl
 by_cases h:q.den=1
 ·rw[qak h];omega
 ·rw[q68 h];simp;omega
theorem qfB(n:Nat):(tN n=[49])=(n=1):=by
 have:tN 1=[49]:=rfl
 rw[←this];exact propext ⟨fun h=>quX h,fun h=>by rw[h]⟩
theorem qz0(a:Rat):(0:Int)<(a.den:Int):=by have:=a.den_nz;omega
def qgh(a b c:Rat):Int:=if 0≤sgq a*(sgq b*sgq c) then (if sgq a=0 then sgq b*sgq c else sgq a) else sgq a*sgq (a*a-b*b*c)
theorem qxE(q:Rat):-1≤sgq q∧sgq q≤1:=by rcases qbI q with⟨_,e⟩|⟨_,e⟩|⟨_,e⟩<;>rw[e]<;>decide
theorem qCJ{x y:Int}(hx:-1≤x∧x≤1)(hy:-1≤y∧y≤1):-1≤x*y∧x*y≤1:=by
 have:=qu4 (A:=1) (B:=1) hx.1 hx.2 hy.1 hy.2
 omega
theorem qkf{x y:Int}(hx:-1≤x∧x≤1)(hy:-1≤y∧y≤1):jF .i64 x y=x*y:=yP (by have:=qCJ hx hy;omega)
end Go.Eng

namespace Go.Eng
def mv:List Int→Int
 | []=>0
 | x::l=>x+1000000000*mv l
def pB(n:Nat):Int:=1000000000^n
theorem q5x:pB 0=1:=rfl
theorem q8K(n:Nat):pB (n+1)=pB n*1000000000:=Int.pow_succ _ _
theorem qac:∀n,0<pB n
 | 0=>by decide
 | n+1=>by rw[q8K];have:=qac n;omega
theorem qBK(m n:Nat):pB (m+n)=pB m*pB n:=Int.pow_add _ _ _
theorem qaM{m n:Nat}(h:m≤n):pB m≤pB n:=by
 obtain⟨k,rfl⟩:∃k,n=m+k:=⟨n-m,by omega⟩
 induction k with
 | zero=>simp
 | succ k ih=>
  have h1:=ih (by omega)
  rw[show m+(k+1)=(m+k)+1 by omega,q8K]
  have:=qac (m+k)
  omega
def dgs(l:List Int):Prop:=∀x,x∈l→0≤x∧x<1000000000
theorem qvk:∀(l:List Int) (j:Nat) (h:j<l.length) (y:Int),mv (l.set j y)=mv l+(y-l[j])*pB j
 | [],j,h,_=>by simp at h
 | x::l,0,_,y=>by simp only[List.set_cons_zero,mv,List.getElem_cons_zero,q5x];omega
 | x::l,j+1,h,y=>by
  have ih:=qvk l j (by simpa using h) y
  simp only[List.set_cons_succ,mv,List.getElem_cons_succ,q8K]
  rw[ih]
  grind
theorem qwk:∀(l:List Int) (n:Nat),dgs l→(∀i,n≤i→l.getD i 0=0)→0≤mv l∧mv l<pB n
 | [],n,_,_=>⟨Int.le_refl _,qac n⟩
 | x::l,0,hd,hz=>by
  have ih:=qwk l 0 (fun y hy=>hd y (List.mem_cons_of_mem _ hy)) (fun i _=>by have:=hz (i+1) (by omega);simpa using this)
  have hx:x=0:=by simpa using hz 0 (by omega)
  rw[q5x] at ih ⊢
  simp only[mv];omega
 | x::l,n+1,hd,hz=>by
  have ih:=qwk l n (fun y hy=>hd y (List.mem_cons_of_mem _ hy)) (fun i hi=>by have:=hz (i+1) (by omega);simpa using this)
  have hx:=hd x List.mem_cons_self
  rw[q8K]
  simp only[mv]
  generalize pB n=p at *
  omega
theorem qBT:∀(l:List Int) (j:Nat) (h:j<l.length),dgs l→l[j]≠0→pB j≤mv l
 | [],j,h,_,_=>by simp at h
 | x::l,0,_,hd,hx=>by
  have h1:=hd x List.mem_cons_self
  have h2:=(qwk l l.length (fun y hy=>hd y (List.mem_cons_of_mem _ hy)) (fun i hi=>by simp[List.getD_eq_getElem?_getD,hi])).1
  simp only[List.getElem_cons_zero] at hx
  simp only[mv,q5x];omega
 | x::l,j+1,h,hd,hx=>by
  have ih:=qBT l j (by simpa using h) (fun y hy=>hd y (List.mem_cons_of_mem _ hy)) (by simpa using hx)
  have h1:=hd x List.mem_cons_self
  rw[q8K]
  simp only[mv];omega
theorem qv7:∀(s t:List Int),mv (s++t)=mv s+pB s.length*mv t
 | [],t=>by simp[mv,q5x]
 | x::s,t=>by
  simp only[List.cons_append,mv,List.length_cons,q8K]
  rw[qv7 s t];grind
theorem qcQ(n:Nat):mv (List.replicate n 0)=0:=by
 induction n with
 | zero=>rfl
 | succ n ih=>simp[List.replicate_succ,mv,ih]
theorem qaG{l:List Int}{i:Nat}(h:i<l.length):mv (l.drop i)=l[i]+1000000000*mv (l.drop (i+1)):=by
 rw[List.drop_eq_getElem_cons h];rfl
theorem vz{l:List Int}{n i:Nat}(hd:dgs l)(hz:∀i,n≤i→l.getD i 0=0)(hi:n≤i):mv (l.drop i)=0:=by
 have:=qwk (l.drop i) 0 (fun x hx=>hd x (List.mem_of_mem_drop hx)) (fun j _=>by
  have:=hz (i+j) (by omega)
  simpa[List.getD_eq_getElem?_getD] using this)
 rw[q5x] at this
 omega
structure WOK (n:Nat) (l:List Int):Prop where
 len:l.length=232
 le:n≤232
 dig:dgs l
 z:∀i,n≤i→l.getD i 0=0
def nrm(n:Nat)(l:List Int):Prop:=n=0∨l.getD (n-1) 0≠0
theorem WOK.bd{n:Nat}{l:List Int}(h:WOK n l):0≤mv l∧mv l<pB n:=qwk l n h.dig h.z
theorem WOK.lo{n:Nat}{l:List Int}(h:WOK n l)(hn:nrm n l)(h0:n≠0):pB (n-1)≤mv l:=by
 have h1:=h.le
 have h2:=h.len
 rcases hn with hn|hn
 ·exact absurd hn h0
 ·refine qBT l (n-1) (by omega) h.dig ?_
  rwa [yW (by omega)] at hn
theorem qsz(N i:Nat):(List.replicate N (0:Int)).getD i 0=0:=by
 rw[List.getD_eq_getElem?_getD,List.getElem?_replicate];split<;>rfl
theorem qyd(N:Nat):dgs (List.replicate N 0):=fun x hx=>by
 have:=(List.mem_replicate.1 hx).2
 omega
theorem WOK.zero:WOK 0 (List.replicate 232 0):=
 ⟨List.length_replicate,by omega,qyd 232,fun i _=>qsz 232 i⟩
theorem WOK.get{n:Nat}{l:List Int}(h:WOK n l)(i:Nat):0≤l.getD i 0∧l.getD i 0<1000000000:=by
 rcases Nat.lt_or_ge i l.length with hi|hi
 ·rw[yW hi];exact h.dig _ (List.getElem_mem hi)
 ·simp[List.getD_eq_getElem?_getD,hi]
theorem WOK.setW{n:Nat}{l:List Int}(h:WOK n l){j:Nat}{y:Int}(hj:j<232)(hy:0≤y∧y<1000000000):WOK (max n (j+1)) (l.set j y):=by
 have h1:=h.le
 refine⟨by simp[h.len],by omega,fun x hx=>?_,fun i hi=>?_⟩
 ·rcases List.mem_or_eq_of_mem_set hx with hx|rfl
  ·exact h.dig x hx
  ·exact hy
 ·have:=h.z i (by omega)
  rw[List.getD_eq_getElem?_getD,List.getElem?_set_ne (by omega),←List.getD_eq_getElem?_getD]
  exact this
theorem q4G(l:List Int)(i:Nat):cI (rI l) (i:Int) 0=l.getD i 0:=by rw[qCL,Int.toNat_natCast]
theorem qhG(l:List Int)(i:Nat)(v:Int):qe7 (rI l) (i:Int) 0 [.i v]=rI (l.set i v):=by rw[qBE,Int.toNat_natCast]
theorem qiT{n:Nat}{l:List Int}(h:WOK n l)(b:Bool):∃m,(qy [.b b,.i (n:Int),.r (rI l)]).run=some (0,[.b b,.i ((m:Nat):Int),.r (rI l)])∧WOK m l∧nrm m l:=by
 rw[qeQ]
 have h232:=h.le
 obtain⟨j,qs,h1,rfl,m,rfl,h3,h4⟩:=q8l (S:=ji) (fun k ps=>ps=[.b b,.i (k:Int),.r (rI l)]∧WOK k l)
  (fun j qs=>j=0∧∃m:Nat,qs=[.b b,.i (m:Int),.r (rI l)]∧WOK m l∧nrm m l) (n:=n) (by omega) (fun k ps hk ⟨hps,hw⟩=>by
  subst hps
  rw[qd9]
  have hk2:=hw.le
  by_cases h0:k=0
  ·right
   refine⟨0,_,?_,rfl,k,rfl,hw,.inl h0⟩
   simp only[STD,h0]
   rfl
  ·have hs:qB .i64 (k:Int) 1=((k-1:Nat):Int):=by rw[wA (by omega)];omega
   have a1:(0:Int)<(k:Int):=by omega
   have a2:(0:Int)≤((k-1:Nat):Int)∧((k-1:Nat):Int)<232:=by omega
   by_cases hz:l.getD (k-1) 0=0
   ·left
    refine⟨k-1,[.b b,.i ((k-1:Nat):Int),.r (rI l)],by omega,?_,rfl,hw.len,by omega,hw.dig,fun i hi=>?_⟩
    ·simp only[STD,a1,hs,a2,q4G,hz,and_self]
    ·rcases Nat.eq_or_lt_of_le hi with e|e
     ·rw[←e];exact hz
     ·exact hw.z i (by omega)
   ·right
    refine⟨0,[.b b,.i (k:Int),.r (rI l)],?_,rfl,k,rfl,hw,.inr hz⟩
    simp only[STD,a1,hs,a2,q4G,hz,and_self]) (ps:=[.b b,.i (n:Int),.r (rI l)]) ⟨rfl,h⟩
 exact⟨m,by simp only[STD,h1],h3,h4⟩
theorem qBB(s:Int):∃q r:Int,s.tdiv 1000000000=q∧s=q*1000000000+r∧(0≤s→0≤r)∧(s≤0→r≤0)∧-1000000000<r∧r<1000000000:=by
 obtain⟨h1,h2,h3,h4⟩:=qwj s (show (1000000000:Int)≠0 by decide)
 refine⟨_,qou s 1000000000,rfl,by omega,h3,h4,by omega,by omega⟩
theorem qwD{f up rest:Int}{i n j:Nat}{l ly:List Int}{bx b2:Bool}{ny:Nat}{S:Int}(hj:((j:Nat):Int)=qk .i64 (i:Int) up)(hj2:j<232)(hw:WOK n l)(hin:i<233)
  (hS:S=if i<ny then l.getD j 0+rest+f*ly.getD i 0 else l.getD j 0+rest) (hr:-1000000000≤rest∧rest≤1000000000) (hfy:-999999999999999999≤f*ly.getD i 0∧f*ly.getD i 0≤999999999999999999) (hny:ny≤232)
  (hgo:i<ny∨rest≠0) :
  ∃q s:Int,S=q*1000000000+s∧0≤s∧s<1000000000 ∧
   (vU [.i f,.i up,.i rest,.i (i:Int),.b bx,.i (n:Int),.r (rI l),.b b2,.i (ny:Int),.r (rI ly)]).run=some (0,[.i f,.i up,.i q,.i ((i+1:Nat):Int),.b bx,.i ((max n (j+1):Nat):Int),.r (rI (l.set j s)),.b b2,.i (ny:Int),.r (rI ly)]):=by
 have hg:=hw.get j
 obtain⟨q,r,e1,e2,e3,e4,e5,e6⟩:=qBB S
 have hSb:-1000000000999999999≤S∧S≤1000000001999999998:=by rw[hS];split<;>omega
 have w1:kn .i64 S 1000000000=q:=by
  unfold kn
  rw[e1]
  unfold IntKind.wrap
  simp[IntKind.signed,IntKind.bits];omega
 have w2:jF .i64 q 1000000000=q*1000000000:=yP (by omega)
 have w3:qB .i64 S (q*1000000000)=r:=by rw[wA (by omega)];omega
 have w4:qk .i64 (l.getD j 0) rest=l.getD j 0+rest:=wv (by omega)
 have w5:qk .i64 (i:Int) 1=((i+1:Nat):Int):=by rw[wv (by omega)];omega
 have w6:qk .i64 (j:Int) 1=((j+1:Nat):Int):=by rw[wv (by omega)];omega
 have w7:qiz (n:Int) ((j+1:Nat):Int)=((max n (j+1):Nat):Int):=quu _ _
 have a1:(0:Int)≤(j:Int)∧(j:Int)<232:=by omega
 have hw8:r<0→qk .i64 r 1000000000=r+1000000000:=fun _=>wv (by omega)
 have hw9:r<0→qB .i64 q 1=q-1:=fun _=>wA (by omega)
 rw[q74]
 by_cases hi:i<ny
 ·rw[if_pos hi] at hS
  have a2:(i:Int)<(ny:Int):=by omega
  have a3:(0:Int)≤(i:Int)∧(i:Int)<232:=by omega
  have w10:jF .i64 f (ly.getD i 0)=f*ly.getD i 0:=yP (by omega)
  have w11:qk .i64 (l.getD j 0+rest) (f*ly.getD i 0)=S:=by rw[wv (by omega),hS]
  by_cases hneg:r<0
  ·refine⟨q-1,r+1000000000,by omega,by omega,by omega,?_⟩
   simp only[STD,a2,←hj,a1,a3,q4G,w4,w10,w11,w1,w2,w3,hneg,hw8 hneg,hw9 hneg,w5,w6,w7,qhG,and_self]
  ·refine⟨q,r,by omega,by omega,by omega,?_⟩
   simp only[STD,a2,←hj,a1,a3,q4G,w4,w10,w11,w1,w2,w3,hneg,w5,w6,w7,qhG,and_self]
 ·rw[if_neg hi] at hS
  have hr0:rest≠0:=hgo.resolve_left hi
  have a2:¬(i:Int)<(ny:Int):=by omega
  rw[←hS] at w4
  by_cases hneg:r<0
  ·refine⟨q-1,r+1000000000,by omega,by omega,by omega,?_⟩
   simp only[STD,a2,hr0,←hj,a1,q4G,w4,w1,w2,w3,hneg,hw8 hneg,hw9 hneg,w5,w6,w7,qhG,and_self]
  ·refine⟨q,r,by omega,by omega,by omega,?_⟩
   simp only[STD,a2,hr0,←hj,a1,q4G,w4,w1,w2,w3,hneg,w5,w6,w7,qhG,and_self]
theorem qnC{f:Int}{up nx ny:Nat}{lx ly:List Int}(hx:WOK nx lx)(hy:WOK ny ly)(hf:-999999999≤f∧f≤999999999)(hup:ny+up≤232){T:Int}(hT:T=mv lx+f*mv ly*pB up)(h0:0≤T)(h1:T<pB 232)(bx b2:Bool) :
  ∃(n:Nat) (l:List Int),(qJ [.i f,.i (up:Int),.b bx,.i (nx:Int),.r (rI lx),.b b2,.i (ny:Int),.r (rI ly)]).run=some (0,[.b bx,.i (n:Int),.r (rI l),.b b2,.i (ny:Int),.r (rI ly)])∧WOK n l∧nrm n l∧mv l=T:=by
 rw[qhP]
 have hny:=hy.le
 obtain⟨j,qs,g1,rfl,n,l,rfl,g3,g4⟩:=q8l (S:=vU) (fun k ps=>∃(i n:Nat) (rest:Int) (l:List Int),ps=[.i f,.i (up:Int),.i rest,.i (i:Int),.b bx,.i (n:Int),.r (rI l),.b b2,.i (ny:Int),.r (rI ly)] ∧
   i+k=300∧i≤232∧WOK n l∧-1000000000≤rest∧rest≤1000000000∧mv l+rest*pB (i+up)+f*mv (ly.drop i)*pB (i+up)=T)
  (fun j qs=>j=0∧∃(n:Nat) (l:List Int),qs=[.b bx,.i (n:Int),.r (rI l),.b b2,.i (ny:Int),.r (rI ly)]∧WOK n l∧mv l=T) (n:=300) (by omega) (fun k ps hk ⟨i,n,rest,l,hps,hik,hi,hw,hr1,hr2,hv⟩=>by
  subst hps
  have hg:=hy.get i
  have hfy:=qu4 (A:=999999999) (B:=999999999) hf.1 hf.2 (show -(999999999:Int)≤ly.getD i 0 by omega) (show ly.getD i 0≤999999999 by omega)
  have hbd:=hw.bd
  have hn232:=hw.le
  by_cases hgo:i<ny∨rest≠0
  ·left
   have hj:i+up<232:=by
    rcases Nat.lt_or_ge i ny with h|h
    ·omega
    ·rcases Nat.lt_or_ge (i+up) 232 with h2|h2
     ·exact h2
     ·exfalso
      have hr0:=hgo.resolve_left (by omega)
      rw[vz hy.dig hy.z h] at hv
      have hP:=qaM h2
      have hlt:=qaM hn232
      simp only[Int.mul_zero,Int.zero_mul,Int.add_zero] at hv
      generalize pB (i+up)=P at *
      rcases Int.lt_or_lt_of_ne hr0 with h3|h3
      ·have:rest*P≤-1*P:=Int.mul_le_mul_of_nonneg_right (by omega) (by have:=qac 232;omega)
       omega
      ·have:1*P≤rest*P:=Int.mul_le_mul_of_nonneg_right (by omega) (by have:=qac 232;omega)
       omega
   have hjw:(((i+up:Nat)):Int)=qk .i64 (i:Int) (up:Int):=by rw[wv (by omega)];omega
   obtain⟨q,s,s1,s2,s3,s4⟩:=qwD (bx:=bx) (b2:=b2) (f:=f) (ly:=ly) hjw hj hw (by omega) rfl ⟨hr1,hr2⟩ (by omega) hny hgo
   refine⟨k-1,_,by omega,s4,i+1,_,q,_,rfl,by omega,by omega,hw.setW hj ⟨s2,s3⟩,?_,?_,?_⟩
   ·have hgl:=hw.get (i+up)
    split at s1<;>omega
   ·have hgl:=hw.get (i+up)
    split at s1<;>omega
   ·have hjl:i+up<l.length:=by rw[hw.len];exact hj
    rw[qvk l (i+up) hjl,←hv,show i+1+up=(i+up)+1 by omega,q8K]
    rw[yW hjl] at s1
    have hil:i<ly.length:=by rw[hy.len];omega
    rw[qaG hil]
    rw[yW hil] at s1
    generalize pB (i+up)=P at *
    generalize l[i+up]=d at *
    by_cases hiny:i<ny
    ·rw[if_pos hiny] at s1
     generalize ly[i]=y at *
     generalize mv (ly.drop (i+1))=m at *
     grind
    ·rw[if_neg hiny] at s1
     have z1:ly[i]=0:=by rw[←yW hil];exact hy.z i (by omega)
     rw[z1,vz hy.dig hy.z (show ny≤i+1 by omega)]
     grind
  ·right
   have c1:¬i<ny:=fun h=>hgo (.inl h)
   have c2:rest=0:=Decidable.byContradiction fun h=>hgo (.inr h)
   refine⟨0,[.b bx,.i (n:Int),.r (rI l),.b b2,.i (ny:Int),.r (rI ly)],?_,rfl,n,l,rfl,hw,?_⟩
   ·rw[q74]
    have a2:¬(i:Int)<(ny:Int):=by omega
    simp only[STD,a2,c2]
   ·rw[vz hy.dig hy.z (by omega),c2] at hv
    simp only[Int.mul_zero,Int.zero_mul,Int.add_zero] at hv
    exact hv) (ps:=[.i f,.i (up:Int),.i 0,.i 0,.b bx,.i (nx:Int),.r (rI lx),.b b2,.i (ny:Int),.r (rI ly)])
  ⟨0,nx,0,lx,rfl,by omega,by omega,hx,by omega,by omega,by simp[hT]⟩
 obtain⟨m,t1,t2,t3⟩:=qiT g3 bx
 exact⟨m,l,by simp only[STD,g1,t1],t2,t3,g4⟩
end Go.Eng

namespace Go.Eng
theorem qa4(l:List Int)(j:Nat)(h:j≤l.length):mv l=mv (l.take j)+pB j*mv (l.drop j):=by
 have:=qv7 (l.take j) (l.drop j)
 rw[List.take_append_drop,List.length_take,Nat.min_eq_left h] at this
 exact this
theorem qzh{l:List Int}(h:dgs l)(j:Nat):dgs (l.take j):=fun x hx=>h x (List.mem_of_mem_take hx)
theorem q8u{l:List Int}(h:dgs l)(j:Nat):0≤mv (l.take j)∧mv (l.take j)<pB j:=
 qwk (l.take j) j (qzh h j) fun i hi=>by
  rw[List.getD_eq_getElem?_getD,List.getElem?_eq_none (by simp;omega)];rfl
theorem qkW{l:List Int}{i:Nat}(h:i<l.length):mv (l.take (i+1))=mv (l.take i)+l[i]*pB i:=by
 rw[List.take_succ_eq_append_getElem h,qv7,List.length_take,Nat.min_eq_left (by omega)]
 simp only[mv]
 grind
theorem WOK.mono{n m:Nat}{l:List Int}(h:WOK n l)(hm:n≤m)(h2:m≤232):WOK m l:=⟨h.len,h2,h.dig,fun i hi=>h.z i (by omega)⟩
theorem qiP{n:Nat}{l:List Int}(h:WOK n l)(hn:nrm n l):(n=0)=(mv l=0):=by
 apply propext
 constructor
 ·intro h0
  have:=h.bd
  rw[h0,q5x] at this;omega
 ·intro h0
  rcases Nat.eq_zero_or_pos n with h1|h1
  ·exact h1
  ·have:=h.lo hn (by omega)
   have:=qac (n-1)
   omega
theorem qCG{n m:Nat}{l k:List Int}(h:WOK n l)(hn:nrm n l)(h2:WOK m k)(hle:mv l≤mv k):n≤m:=by
 rcases Nat.lt_or_ge m n with h3|h3
 ·exfalso
  have h4:=h.lo hn (by omega)
  have h5:=h2.bd.2
  have h6:=qaM (show m≤n-1 by omega)
  omega
 ·exact h3
theorem quI{nx ny:Nat}{lx ly:List Int}(hx:WOK nx lx)(hnx:nrm nx lx)(hy:WOK ny ly)(hny:nrm ny ly)(bx b2:Bool) :
  ∃r:Int,(zE [.b bx,.i (nx:Int),.r (rI lx),.b b2,.i (ny:Int),.r (rI ly)]).run=some (0,[.i r,.b bx,.i (nx:Int),.r (rI lx),.b b2,.i (ny:Int),.r (rI ly)])∧((0≤r)=(mv ly≤mv lx)):=by
 rw[qgj]
 have h1:=hx.le
 have h2:=hy.le
 by_cases hne:nx=ny
 ·subst hne
  have hs:qB .i64 (nx:Int) 1=(nx:Int)-1:=wA (by omega)
  obtain⟨j,qs,g1,g2⟩:=q8l (S:=jN) (fun k ps=>ps=[.i ((k:Int)-1),.b bx,.i (nx:Int),.r (rI lx),.b b2,.i (nx:Int),.r (rI ly)]∧k≤nx∧mv (lx.drop k)=mv (ly.drop k))
   (fun j qs=>(j=0∧qs=[.b bx,.i (nx:Int),.r (rI lx),.b b2,.i (nx:Int),.r (rI ly)]∧mv lx=mv ly)∨(j=1∧∃r:Int,qs=[.i r,.b bx,.i (nx:Int),.r (rI lx),.b b2,.i (nx:Int),.r (rI ly)]∧((0≤r)=(mv ly≤mv lx)))) (n:=nx) (by omega) (fun k ps hk ⟨hps,hkn,hd⟩=>by
   subst hps
   rw[qe1]
   by_cases h0:k=0
   ·right
    refine⟨0,_,?_,.inl ⟨rfl,rfl,?_⟩⟩
    ·have a:¬(0:Int)≤(k:Int)-1:=by omega
     simp only[STD,a]
    ·rw[h0] at hd;simpa using hd
   ·obtain⟨i,rfl⟩:∃i,k=i+1:=⟨k-1,by omega⟩
    have e:(((i+1:Nat):Int)-1)=(i:Int):=by omega
    rw[e]
    have a1:(0:Int)≤(i:Int):=by omega
    have a2:(i:Int)<232:=by omega
    have gx:=hx.get i
    have gy:=hy.get i
    have hxl:i<lx.length:=by rw[hx.len];omega
    have hyl:i<ly.length:=by rw[hy.len];omega
    by_cases hc:lx.getD i 0=ly.getD i 0
    ·left
     refine⟨i,[.i ((i:Int)-1),.b bx,.i (nx:Int),.r (rI lx),.b b2,.i (nx:Int),.r (rI ly)],by omega,?_,rfl,by omega,?_⟩
     ·have w:qB .i64 (i:Int) 1=(i:Int)-1:=wA (by omega)
      simp only[STD,a1,a2,and_self,q4G,hc,w]
     ·rw[qaG hxl,qaG hyl,hd]
      rw[yW hxl,yW hyl] at hc
      rw[hc]
    ·right
     have w:qB .i64 (lx.getD i 0) (ly.getD i 0)=lx.getD i 0-ly.getD i 0:=wA (by omega)
     refine⟨1,[.i (lx.getD i 0-ly.getD i 0),.b bx,.i (nx:Int),.r (rI lx),.b b2,.i (nx:Int),.r (rI ly)],?_,.inr ⟨rfl,_,rfl,?_⟩⟩
     ·simp only[STD,a1,a2,and_self,q4G,hc,w]
     ·have sx:=qa4 lx i (by omega)
      have sy:=qa4 ly i (by omega)
      rw[qaG hxl] at sx
      rw[qaG hyl] at sy
      have tx:=q8u hx.dig i
      have ty:=q8u hy.dig i
      rw[yW hxl,yW hyl] at hc ⊢
      rw[hd] at sx
      have hp:=qac i
      generalize pB i=P at *
      generalize lx[i]=u at *
      generalize ly[i]=v at *
      generalize mv (ly.drop (i+1))=w at *
      have e1:P*(u+1000000000*w)=P*u+P*(1000000000*w):=Int.mul_add _ _ _
      have e2:P*(v+1000000000*w)=P*v+P*(1000000000*w):=Int.mul_add _ _ _
      have e3:P*(u-v)=P*u-P*v:=Int.mul_sub _ _ _
      apply propext
      rcases Int.lt_or_lt_of_ne (show u-v≠0 by omega) with h|h
      ·have:P*(u-v)≤P*(-1):=Int.mul_le_mul_of_nonneg_left (by omega) (by omega)
       constructor
       ·intro;omega
       ·intro;omega
      ·have:P*1≤P*(u-v):=Int.mul_le_mul_of_nonneg_left (by omega) (by omega)
       constructor
       ·intro;omega
       ·intro;omega) (ps:=[.i ((nx:Int)-1),.b bx,.i (nx:Int),.r (rI lx),.b b2,.i (nx:Int),.r (rI ly)])
   ⟨rfl,Nat.le_refl _,by rw[vz hx.dig hx.z (Nat.le_refl _),vz hy.dig hy.z (Nat.le_refl _)]⟩
  rcases g2 with⟨rfl,rfl,g2⟩|⟨rfl,r,rfl,g2⟩
  ·refine⟨0,?_,?_⟩
   ·simp only[STD,hs,g1,qW g1]
   ·apply propext;simp;omega
  ·refine⟨r,?_,g2⟩
   simp only[STD,hs,g1,qW g1,show ¬(1=0) by omega]
 ·have hs:qB .i64 (nx:Int) (ny:Int)=(nx:Int)-(ny:Int):=wA (by omega)
  refine⟨(nx:Int)-(ny:Int),?_,?_⟩
  ·have a:¬(nx:Int)=(ny:Int):=by omega
   simp only[STD,a,hs]
  ·apply propext
   have b1:=hx.bd
   have b2:=hy.bd
   rcases Nat.lt_or_gt_of_ne hne with h|h
   ·have:=hy.lo hny (by omega)
    have:=qaM (show nx≤ny-1 by omega)
    constructor
    ·intro;omega
    ·intro;omega
   ·have:=hx.lo hnx (by omega)
    have:=qaM (show ny≤nx-1 by omega)
    constructor
    ·intro;omega
    ·intro;omega
def sv(b:Bool)(l:List Int):Int:=if b then -mv l else mv l
theorem qAj{nx ny:Nat}{lx ly:List Int}(hx:WOK nx lx)(hnx:nrm nx lx)(hy:WOK ny ly)(hny:nrm ny ly)(hb:mv lx+mv ly<pB 232)(bx b2:Bool) :
  ∃(b:Bool) (n:Nat) (l:List Int),(ww [.b bx,.i (nx:Int),.r (rI lx),.b b2,.i (ny:Int),.r (rI ly)]).run=some (0,[.b b,.i (n:Int),.r (rI l),.b b2,.i (ny:Int),.r (rI ly)])∧WOK n l∧nrm n l∧sv b l=sv bx lx+sv b2 ly:=by
 rw[qja]
 have h1:=hx.bd
 have h2:=hy.bd
 have l1:=hx.le
 have l2:=hy.le
 by_cases hs:bx=b2
 ·subst hs
  obtain⟨n,l,g1,g2,g3,g4⟩:=qnC (f:=1) (up:=0) hx hy (by omega) (by omega) (T:=mv lx+mv ly) (by rw[q5x];omega) (by omega) hb bx bx
  refine⟨bx,n,l,?_,g2,g3,?_⟩
  ·simp only[STD,show ((0:Nat):Int)=0 from rfl] at g1 ⊢
   simp only[STD,g1]
  ·unfold sv;rw[g4];cases bx<;>simp<;>omega
 ·obtain⟨r,r1,r2⟩:=quI hx hnx hy hny bx b2
  by_cases hr:mv ly≤mv lx
  ·have hr':0≤r:=by rw[r2];exact hr
   obtain⟨n,l,g1,g2,g3,g4⟩:=qnC (f:=-1) (up:=0) hx hy (by omega) (by omega) (T:=mv lx-mv ly) (by rw[q5x];omega) (by omega) (by omega) bx b2
   refine⟨bx,n,l,?_,g2,g3,?_⟩
   ·simp only[show ((0:Nat):Int)=0 from rfl] at g1
    simp only[STD,hs,r1,hr',g1]
   ·unfold sv;rw[g4];cases bx<;>cases b2<;>simp_all<;>omega
  ·have hr':¬0≤r:=by rw[r2];exact hr
   obtain⟨n,l,g1,g2,g3,g4⟩:=qnC (f:=-1) (up:=0) hy hx (by omega) (by omega) (T:=mv ly-mv lx) (by rw[q5x];omega) (by omega) (by omega) b2 bx
   refine⟨b2,n,l,?_,g2,g3,?_⟩
   ·simp only[show ((0:Nat):Int)=0 from rfl] at g1
    simp only[STD,hs,r1,hr',g1]
   ·unfold sv;rw[g4];cases bx<;>cases b2<;>simp_all<;>omega
theorem qxL{x y:Int}{m n:Nat}(h0:0≤x)(h1:x<pB m)(h2:0≤y)(h3:y≤pB n):x*y<pB (m+n)∨y=0:=by
 rcases Int.lt_or_eq_of_le h2 with h|h
 ·left
  rw[qBK]
  have e1:x*y<pB m*y:=Int.mul_lt_mul_of_pos_right h1 h
  have e2:pB m*y≤pB m*pB n:=Int.mul_le_mul_of_nonneg_left h3 (by omega)
  omega
 ·exact .inr h.symm
theorem qAw{nx ny:Nat}{lx ly:List Int}(hx:WOK nx lx)(hy:WOK ny ly)(hb:nx+ny≤232)(bx b2:Bool) :
  ∃(n:Nat) (l:List Int),(uV [.b bx,.i (nx:Int),.r (rI lx),.b b2,.i (ny:Int),.r (rI ly)]).run=some (0,[.b bx,.i (nx:Int),.r (rI lx),.b b2,.i (ny:Int),.r (rI ly),.b (!(Go.Eng.beq bx b2)),.i (n:Int),.r (rI l)])∧WOK n l∧nrm n l∧mv l=mv lx*mv ly:=by
 rw[qhp]
 have hbx:=hx.bd
 have e0:q6p 232 [.i 0]=rI (List.replicate 232 0):=qqE 232 0
 obtain⟨j,qs,g1,rfl,n,l,rfl,g2,g3,g4⟩:=q8l (S:=yF) (fun k ps=>∃(i n:Nat) (l:List Int),ps=[.i (ny:Int),.i (i:Int),.b bx,.i (nx:Int),.r (rI lx),.b b2,.i (ny:Int),.r (rI ly),.b (!(Go.Eng.beq bx b2)),.i (n:Int),.r (rI l)] ∧
   i+k=ny∧WOK n l∧nrm n l∧mv l=mv lx*mv (ly.take i))
  (fun j qs=>j=0∧∃(n:Nat) (l:List Int),qs=[.b bx,.i (nx:Int),.r (rI lx),.b b2,.i (ny:Int),.r (rI ly),.b (!(Go.Eng.beq bx b2)),.i (n:Int),.r (rI l)]∧WOK n l∧nrm n l∧mv l=mv lx*mv ly) (n:=ny) (by omega) (fun k ps hk ⟨i,n,l,hps,hik,hw,hn,hv⟩=>by
  subst hps
  rw[qeK]
  by_cases hi:i<ny
  ·left
   have hil:i<ly.length:=by rw[hy.len];omega
   have gy:=hy.get i
   have tb:=q8u hy.dig i
   have tb2:=q8u hy.dig (i+1)
   have hT:mv lx*mv (ly.take (i+1))=mv l+ly.getD i 0*mv lx*pB i:=by
    rw[qkW hil,hv,yW hil];grind
   have hlt:mv lx*mv (ly.take (i+1))<pB 232:=by
    rcases qxL (n:=i+1) hbx.1 hbx.2 tb2.1 (by omega) with h|h
    ·exact Int.lt_of_lt_of_le h (qaM (by omega))
    ·rw[h,Int.mul_zero];exact qac _
   obtain⟨n',l',c1,c2,c3,c4⟩:=qnC (f:=ly.getD i 0) (up:=i) hw hx (by omega) (by omega) hT (Int.mul_nonneg hbx.1 tb2.1) hlt (!(Go.Eng.beq bx b2)) bx
   have w:qk .i64 (i:Int) 1=((i+1:Nat):Int):=by rw[wv (by omega)];omega
   refine⟨k-1,_,by omega,?_,i+1,n',l',rfl,by omega,c2,c3,c4⟩
   have a1:(i:Int)<(ny:Int):=by omega
   have a2:(0:Int)≤(i:Int)∧(i:Int)<232:=by omega
   simp only[STD,a1,a2,and_self,q4G,c1,w]
  ·right
   have hi2:i=ny:=by omega
   have a1:¬(i:Int)<(ny:Int):=by omega
   refine⟨0,[.b bx,.i (nx:Int),.r (rI lx),.b b2,.i (ny:Int),.r (rI ly),.b (!(Go.Eng.beq bx b2)),.i (n:Int),.r (rI l)],?_,rfl,n,l,rfl,hw,hn,?_⟩
   ·simp only[STD,a1]
   ·have:=qa4 ly ny (by rw[hy.len];exact hy.le)
    rw[vz hy.dig hy.z (Nat.le_refl _),Int.mul_zero,Int.add_zero] at this
    rw[hv,hi2,←this])
  (ps:=[.i (ny:Int),.i 0,.b bx,.i (nx:Int),.r (rI lx),.b b2,.i (ny:Int),.r (rI ly),.b (!(Go.Eng.beq bx b2)),.i 0,.r (rI (List.replicate 232 0))])
  ⟨0,0,_,rfl,by omega,WOK.zero,.inl rfl,by rw[qcQ];simp[mv]⟩
 refine⟨n,l,?_,g2,g3,g4⟩
 simp only[e0]
 simp only[STD,g1]
theorem qwq{nx ny:Nat}{lx ly:List Int}(hx:WOK nx lx)(hnx:nrm nx lx)(hy:WOK ny ly)(hny:nrm ny ly)(h0:ny≠0)(hle:mv ly≤mv lx)(hlt:mv lx<pB (ny+1))(hn231:ny≤231)(bx b2:Bool) :
  ∃k:Int,(yt [.b bx,.i (nx:Int),.r (rI lx),.b b2,.i (ny:Int),.r (rI ly)]).run=some (0,[.i k,.b bx,.i (nx:Int),.r (rI lx),.b b2,.i (ny:Int),.r (rI ly)])∧1≤k∧k≤999999999∧k*mv ly≤mv lx:=by
 rw[qjU]
 obtain⟨m,rfl⟩:∃m,ny=m+1:=⟨ny-1,by omega⟩
 have hxl:=hx.len
 have hyl:=hy.len
 have hnx1:m+1≤nx:=qCG hy hny hx hle
 have hnx2:nx≤m+2:=by
  rcases Nat.lt_or_ge (m+2) nx with h|h
  ·exfalso
   have h1:=hx.lo hnx (by omega)
   have h2:=qaM (show m+1+1≤nx-1 by omega)
   omega
  ·exact h
 have gx1:=hx.get m
 have gx2:=hx.get (m+1)
 have gy:=hy.get m
 have sx:=qa4 lx m (by omega)
 have sy:=qa4 ly m (by omega)
 rw[qaG (show m<lx.length by omega),qaG (show m+1<lx.length by omega),vz hx.dig hx.z (show nx≤m+1+1 by omega)] at sx
 rw[qaG (show m<ly.length by omega),vz hy.dig hy.z (Nat.le_refl _)] at sy
 have tx:=q8u hx.dig m
 have ty:=q8u hy.dig m
 have hyn:ly.getD m 0≠0:=by
  rcases hny with h|h
  ·omega
  ·simpa using h
 have w1:qB .i64 ((m+1:Nat):Int) 1=(m:Int):=by rw[wA (by omega)];omega
 have c1:¬((m+1:Nat):Int)<0:=by omega
 have c2:¬(nx:Int)≤(m:Int):=by omega
 have c3:¬(m:Int)<0:=by omega
 have c4:¬((m+1:Nat):Int)≤(m:Int):=by omega
 have c5:(0:Int)≤(m:Int)∧(m:Int)<232:=by omega
 have c6:(0:Int)≤((m+1:Nat):Int)∧((m+1:Nat):Int)<232:=by omega
 have gex:lx[m]'(by omega)=lx.getD m 0:=(yW (by omega)).symm
 have gex1:lx[m+1]'(by omega)=lx.getD (m+1) 0:=(yW (by omega)).symm
 have gey:ly[m]'(by omega)=ly.getD m 0:=(yW (by omega)).symm
 rw[gex,gex1] at sx
 rw[gey] at sy
 have hp:=qac m
 have key:∀a b:Int,a=lx.getD m 0+1000000000*lx.getD (m+1) 0→0<b→mv ly≤b*pB m→∀k,k=a/b→k*mv ly≤mv lx∧q9c k 999999999*mv ly≤mv lx:=by
  intro a b ha hb hbY k hk
  have hk0:0≤k:=by rw[hk];exact Int.ediv_nonneg (by omega) (by omega)
  have hkb:k*b≤a:=by rw[hk];exact Int.ediv_mul_le a (by omega)
  have hY:=(hy.bd).1
  have f1:k*mv ly≤k*(b*pB m):=Int.mul_le_mul_of_nonneg_left hbY hk0
  have f2:k*b*pB m≤a*pB m:=Int.mul_le_mul_of_nonneg_right hkb (by omega)
  have f3:k*(b*pB m)=k*b*pB m:=(Int.mul_assoc _ _ _).symm
  have f4:a*pB m=pB m*(lx.getD m 0+1000000000*(lx.getD (m+1) 0+1000000000*0)):=by rw[ha];grind
  have f5:k*mv ly≤mv lx:=by omega
  refine⟨f5,?_⟩
  have:q9c k 999999999≤k:=by unfold q9c;split<;>omega
  have:=Int.mul_le_mul_of_nonneg_right this hY
  omega
 have wq:∀a b:Int,0≤a→a<1000000000000000000→0<b→kn .i64 a b=a/b:=by
  intro a b h1 h2 h3
  unfold kn
  rw[Int.tdiv_eq_ediv_of_nonneg h1]
  have q1:0≤a/b:=Int.ediv_nonneg h1 (by omega)
  have q2:a/b≤a:=Int.ediv_le_self _ h1
  generalize a/b=q at *
  unfold IntKind.wrap
  simp[IntKind.signed,IntKind.bits];omega
 have fin:∀k:Int,(0<k→k*mv ly≤mv lx∧q9c k 999999999*mv ly≤mv lx)→∃k':Int,(if 0<k then q9c k 999999999 else 1)=k'∧1≤k'∧k'≤999999999∧k'*mv ly≤mv lx:=by
  intro k hk
  by_cases h:0<k
  ·rw[if_pos h]
   refine⟨_,rfl,?_,?_,(hk h).2⟩
   ·unfold q9c;split<;>omega
   ·unfold q9c;split<;>omega
  ·rw[if_neg h];exact⟨1,rfl,by omega,by omega,by omega⟩
 by_cases hcase:nx≤m+1
 ·have c7:(nx:Int)≤((m+1:Nat):Int):=by omega
  have z1:lx.getD (m+1) 0=0:=hx.z _ (by omega)
  have wa:qk .i64 0 (lx.getD m 0)=lx.getD m 0:=by rw[wv (by omega)];omega
  by_cases hm:m=0
  ·subst hm
   have c8:¬(1:Int)<((0+1:Nat):Int):=by omega
   have hq:=wq (lx.getD 0 0) (ly.getD 0 0) (by omega) (by omega) (by omega)
   have hbY:mv ly≤ly.getD 0 0*pB 0:=by rw[q5x] at sy ty ⊢;omega
   obtain⟨k',f1,f2,f3,f4⟩:=fin (lx.getD 0 0/ly.getD 0 0) (fun _=>key _ _ (by rw[z1];omega) (by omega) hbY _ rfl)
   refine⟨k',?_,f2,f3,f4⟩
   rw[←f1]
   simp only[STD,c1,w1,c2,c3,c4,c5,c6,c7,c8,and_self,q4G,wa,hyn,hq]
   split<;>rfl
  ·have c8:(1:Int)<((m+1:Nat):Int):=by omega
   have wb:qk .i64 (ly.getD m 0) 1=ly.getD m 0+1:=wv (by omega)
   have hq:=wq (lx.getD m 0) (ly.getD m 0+1) (by omega) (by omega) (by omega)
   have hbY:mv ly≤(ly.getD m 0+1)*pB m:=by
    have:(ly.getD m 0+1)*pB m=pB m*(ly.getD m 0+1000000000*0)+pB m:=by grind
    omega
   obtain⟨k',f1,f2,f3,f4⟩:=fin (lx.getD m 0/(ly.getD m 0+1)) (fun _=>key _ _ (by rw[z1];omega) (by omega) hbY _ rfl)
   refine⟨k',?_,f2,f3,f4⟩
   rw[←f1]
   have hne:¬ly.getD m 0+1=0:=by omega
   simp only[STD,c1,w1,c2,c3,c4,c5,c6,c7,c8,and_self,q4G,wa,wb,hne,hq]
   split<;>rfl
 ·have c7:¬(nx:Int)≤((m+1:Nat):Int):=by omega
  have wm:jF .i64 (lx.getD (m+1) 0) 1000000000=lx.getD (m+1) 0*1000000000:=yP (by omega)
  have wa:qk .i64 (lx.getD (m+1) 0*1000000000) (lx.getD m 0)=lx.getD (m+1) 0*1000000000+lx.getD m 0:=wv (by omega)
  by_cases hm:m=0
  ·subst hm
   have c8:¬(1:Int)<((0+1:Nat):Int):=by omega
   have hq:=wq (lx.getD (0+1) 0*1000000000+lx.getD 0 0) (ly.getD 0 0) (by omega) (by omega) (by omega)
   have hbY:mv ly≤ly.getD 0 0*pB 0:=by rw[q5x] at sy ty ⊢;omega
   obtain⟨k',f1,f2,f3,f4⟩:=fin ((lx.getD (0+1) 0*1000000000+lx.getD 0 0)/ly.getD 0 0) (fun _=>key _ _ (by omega) (by omega) hbY _ rfl)
   refine⟨k',?_,f2,f3,f4⟩
   rw[←f1]
   simp only[STD,c1,w1,c2,c3,c4,c5,c6,c7,c8,and_self,q4G,wm,wa,hyn,hq]
   split<;>rfl
  ·have c8:(1:Int)<((m+1:Nat):Int):=by omega
   have wb:qk .i64 (ly.getD m 0) 1=ly.getD m 0+1:=wv (by omega)
   have hq:=wq (lx.getD (m+1) 0*1000000000+lx.getD m 0) (ly.getD m 0+1) (by omega) (by omega) (by omega)
   have hbY:mv ly≤(ly.getD m 0+1)*pB m:=by
    have:(ly.getD m 0+1)*pB m=pB m*(ly.getD m 0+1000000000*0)+pB m:=by grind
    omega
   obtain⟨k',f1,f2,f3,f4⟩:=fin ((lx.getD (m+1) 0*1000000000+lx.getD m 0)/(ly.getD m 0+1)) (fun _=>key _ _ (by omega) (by omega) hbY _ rfl)
   refine⟨k',?_,f2,f3,f4⟩
   rw[←f1]
   have hne:¬ly.getD m 0+1=0:=by omega
   simp only[STD,c1,w1,c2,c3,c4,c5,c6,c7,c8,and_self,q4G,wm,wa,wb,hne,hq]
   split<;>rfl
end Go.Eng

namespace Go.Eng
theorem qAf(u:Nat):Lib.decDigits u=tN u:=by
 induction u using Nat.strongRecOn with
 | _ u ih=>
  rw[Lib.decDigits]
  split
  ·rename_i h
   rw[quq h];rfl
  ·rename_i h
   rw[ih (u/10) (by omega)]
   exact(qwd (n:=u) (by omega)).symm
theorem qsY(n:Int):Lib.itoa n=tI n:=by
 unfold Lib.itoa
 by_cases h:n<0
 ·rw[if_pos h,qAf,qdN h]
 ·rw[if_neg h,qAf,qjr h];congr 1;omega
theorem qBP(n:Int)(h:-9223372036854775808≤n∧n≤9223372036854775807):(q47 [.i n]).run=some (0,[.s (tI n)]):=by
 show (qxi [.i n]).run=_
 unfold qxi
 simp only
 rw[if_pos h,qsY];rfl
theorem qs2{c:UInt8}(h:48≤c.toNat∧c.toNat≤57):Lib.digitVal c=some (dv c):=by
 unfold Lib.digitVal dv
 simp_all
theorem qmk:∀{s:List UInt8} (a:Nat),qdu s→Lib.decFrom a s=some (a*10^s.length+val s)
 | [],a,_=>by simp[Lib.decFrom,val]
 | c::s,a,h=>by
  obtain⟨h1,h2⟩:=q46.1 h
  rw[Lib.decFrom,qs2 h1]
  simp only
  rw[qmk _ h2,qaD,List.length_cons,Nat.pow_succ]
  congr 1
  grind
theorem qoR{s:List UInt8}(h:qdu s)(hn:s≠[]):Lib.decNat s=some (val s):=by
 unfold Lib.decNat
 rw[if_neg (by simpa using hn),qmk 0 h];simp
theorem qra{s:List UInt8}(h:qdu s)(hn:s≠[]):Lib.atoi s=some (val s:Int):=by
 obtain⟨c,t,e,h1,h2⟩:=qfM h hn
 rw[e] at h ⊢
 have n1:(c==45)=false:=by
  rw[beq_eq_false_iff_ne];intro hc;subst hc;revert h1;decide
 have n2:(c==43)=false:=by
  rw[beq_eq_false_iff_ne];intro hc;subst hc;revert h1;decide
 unfold Lib.atoi
 simp only[n1,n2,Bool.false_eq_true,if_false]
 rw[qoR h (by simp)];rfl
theorem qxO(m:Int):Lib.atoi (tI m)=some m:=by
 by_cases h:m<0
 ·rw[qdN h]
  unfold Lib.atoi
  simp only[beq_self_eq_true,if_true]
  rw[qoR (yT _) (qnp _),q5J]
  simp;omega
 ·rw[qjr h,qra (yT _) (qnp _),q5J]
  congr 1;omega
theorem qym{s:List UInt8}{n:Int}(hl:s.length≤18)(h:Lib.atoi s=some n):(vF [.s s]).run=some (0,[.i n]):=by
 show (qyh [.s s]).run=_
 unfold qyh
 simp only
 rw[if_pos hl,h];rfl
theorem quV:∀s:List UInt8,Lib.indexByte s 47=if sP s<s.length then (sP s:Int) else -1
 | []=>by simp[Lib.indexByte,sP]
 | c::s=>by
  have ih:=quV s
  have hle:=qB7 s
  unfold Lib.indexByte
  by_cases h:c=47
  ·subst h
   have:sP (47::s)=0:=qBY (by simp) (by simp) (fun j hj=>by omega)
   rw[this];simp
  ·have hc:(c==47)=false:=by simpa using h
   have e:sP (c::s)=sP s+1:=by
    unfold sP
    rw[List.findIdx_cons,hc];rfl
   rw[e]
   generalize sP s=k at *
   have el:(c::s).length=s.length+1:=rfl
   simp only[hc,el,ih,Bool.false_eq_true,if_false]
   grind
theorem qAI(s:List UInt8):(vB [.s s,.s [47]]).run=some (0,[.i (if sP s<s.length then (sP s:Int) else -1)]):=by
 show (qsi [.s s,.s [47]]).run=_
 unfold qsi
 simp only
 rw[←quV];rfl
theorem qva:∀{s t:List UInt8},qdu s→qdu t→s.length=t.length→Lib.compareBytes s t=sgn ((val s:Int)-(val t:Int))
 | [],[],_,_,_=>by simp[Lib.compareBytes,val,sgn]
 | [],_::_,_,_,h=>by simp at h
 | _::_,[],_,_,h=>by simp at h
 | a::s,b::t,hs,ht,h=>by
  obtain⟨h1,h2⟩:=q46.1 hs
  obtain⟨h3,h4⟩:=q46.1 ht
  have hl:s.length=t.length:=by simpa using h
  have ih:=qva h2 h4 hl
  have v1:=qeV h2
  have v2:=qeV h4
  unfold Lib.compareBytes
  rw[qaD,qaD,hl]
  rw[hl] at v1
  have hp:0<10^t.length:=Nat.pow_pos (by omega)
  generalize 10^t.length=P at *
  unfold dv
  by_cases c1:a.toNat<b.toNat
  ·rw[if_pos (show a<b from c1)]
   have:(a.toNat-48+1)*P≤(b.toNat-48)*P:=Nat.mul_le_mul_right _ (by omega)
   rw[Nat.add_mul,Nat.one_mul] at this
   unfold sgn
   rw[if_pos (by omega)]
  ·rw[if_neg (show ¬a<b from c1)]
   by_cases c2:b.toNat<a.toNat
   ·rw[if_pos (show b<a from c2)]
    have:(b.toNat-48+1)*P≤(a.toNat-48)*P:=Nat.mul_le_mul_right _ (by omega)
    rw[Nat.add_mul,Nat.one_mul] at this
    unfold sgn
    rw[if_neg (by omega),if_neg (by omega)]
   ·rw[if_neg (show ¬b<a from c2),ih]
    have:a.toNat=b.toNat:=by omega
    rw[this]
    congr 1;omega
theorem qvA{s t:List UInt8}(hs:qdu s)(ht:qdu t)(h:s.length=t.length):(q2G [.s s,.s t]).run=some (0,[.i (sgn ((val s:Int)-(val t:Int)))]):=by
 show (qlN [.s s,.s t]).run=_
 unfold qlN
 simp only
 rw[qva hs ht h];rfl
def qwX:List UInt8:=[48,49,50,51,52,53,54,55,56,57]
theorem quZ(c:UInt8):(qwX.contains c=true)↔(48≤c.toNat∧c.toNat≤57):=by
 constructor
 ·intro h
  simp only[qwX,List.contains_eq_mem,List.mem_cons,List.not_mem_nil,or_false,decide_eq_true_eq] at h
  rcases h with rfl|rfl|rfl|rfl|rfl|rfl|rfl|rfl|rfl|rfl<;>decide
 ·rintro ⟨h1,h2⟩
  have hk:∃k,c=UInt8.ofNat k∧48≤k∧k≤57:=⟨c.toNat,by simp,h1,h2⟩
  obtain⟨k,rfl,k1,k2⟩:=hk
  have:k=48∨k=49∨k=50∨k=51∨k=52∨k=53∨k=54∨k=55∨k=56∨k=57:=by omega
  rcases this with rfl|rfl|rfl|rfl|rfl|rfl|rfl|rfl|rfl|rfl<;>decide
theorem q7K{p:UInt8→Bool}:∀{l:List UInt8},l.dropWhile p=[]↔∀x,x∈l→p x=true
 | []=>by simp
 | a::l=>by
  rw[List.dropWhile_cons]
  by_cases h:p a=true
  ·rw[if_pos h,q7K];simp[h]
  ·rw[if_neg h];simp[h]
theorem qfC(s:List UInt8):(Lib.trimS s qwX=[])=qdu s:=by
 apply propext
 unfold Lib.trimS Lib.trimLeftS Lib.trimRightS
 constructor
 ·intro h
  have h1:∀c,c∈(s.reverse.dropWhile (qwX.contains ·)).reverse→qwX.contains c=true:=by
   intro c hc
   have:=q7K.1 h c hc
   simpa using this
  have h2:s.reverse.dropWhile (qwX.contains ·)=[]:=by
   cases hd:s.reverse.dropWhile (qwX.contains ·) with
   | nil=>rfl
   | cons c t=>
    exfalso
    have h3:=List.head_dropWhile_not (p:=(qwX.contains ·)) (l:=s.reverse) (by rw[hd];simp)
    simp only[hd,List.head_cons] at h3
    have:=h1 c (by rw[hd];simp)
    rw[this] at h3;cases h3
  intro c hc
  have:=q7K.1 h2 c (by simpa using hc)
  exact(quZ c).1 (by simpa using this)
 ·intro h
  have h2:s.reverse.dropWhile (qwX.contains ·)=[]:=by
   rw[q7K]
   intro c hc
   exact(quZ c).2 (h c (by simpa using hc))
  rw[h2];rfl
theorem qBz(s:List UInt8)(hl:s.length≤9223372036854775807):(q6D [.s s,.s [48,49,50,51,52,53,54,55,56,57]]).run=some (0,[.s (Lib.trimS s qwX)]):=by
 show (qwZ [.s s,.s qwX]).run=_
 unfold qwZ
 simp only
 rw[if_pos ⟨hl,by decide,by decide⟩];rfl
end Go.Eng

namespace Go.Eng
theorem qxP(n:Nat):pB n=((10^(9*n):Nat):Int):=by
 unfold pB
 rw[Nat.pow_mul]
 simp
theorem qvH:∀k:Nat,k≤9→qjz [48,48,48,48,48,48,48,48,48] (k:Int) 9=List.replicate (9-k) 48
 | 0,_=>rfl
 | 1,_=>rfl
 | 2,_=>rfl
 | 3,_=>rfl
 | 4,_=>rfl
 | 5,_=>rfl
 | 6,_=>rfl
 | 7,_=>rfl
 | 8,_=>rfl
 | 9,_=>rfl
 | n+10,h=>by omega
theorem qAK{v:Nat}(h:v<1000000000):qdu (qxz (tN v))∧(qxz (tN v)).length=9∧val (qxz (tN v))=v:=by
 have hl:(tN v).length≤9:=qbu 8 v (by omega)
 have e:qxz (tN v)=List.replicate (9-(tN v).length) 48++tN v:=by
  unfold qxz qs6
  rw[show wl (tN v)=((tN v).length:Int) from rfl,qvH _ hl]
 rw[e]
 refine⟨qiW.2 ⟨qw5 _,yT v⟩,by simp;omega,by rw[qyI,q5J]⟩
theorem qpd{l:List Int}(hl:l.length=232)(hd:dgs l):∀i:Nat,i≤232→qdu (qjs (rI l) i)∧(qjs (rI l) i).length=9*i∧((val (qjs (rI l) i):Nat):Int)=mv (l.take i)
 | 0,_=>⟨qyW,rfl,by simp[qjs,qpG,mv]⟩
 | i+1,h=>by
  obtain⟨h1,h2,h3⟩:=qpd hl hd i (by omega)
  have hil:i<l.length:=by omega
  have hg:=hd _ (List.getElem_mem hil)
  have e:cI (rI l) (i:Int) 0=l[i]:=by rw[q4G,yW hil]
  have e2:Lib.itoa l[i]=tN l[i].toNat:=by rw[qsY,qjr (by omega)];congr 1;omega
  obtain⟨p1,p2,p3⟩:=qAK (v:=l[i].toNat) (by omega)
  unfold qjs
  rw[e,e2]
  refine⟨qiW.2 ⟨p1,h1⟩,by rw[List.length_append,p2,h2];omega,?_⟩
  rw[qqB,p3,h2,qkW hil,qxP]
  simp only[Int.natCast_add,Int.natCast_mul,h3]
  rw[Int.toNat_of_nonneg hg.1];omega
theorem qyV{n:Nat}{l:List Int}(h:WOK n l)(hn:nrm n l)(b:Bool):qxw b (n:Int) (rI l)=tI (sv b l):=by
 unfold qxw
 by_cases h0:n=0
 ·have h1:mv l=0:=by rw[←qiP h hn];exact h0
  rw[if_pos (by omega)]
  unfold sv;rw[h1];cases b<;>rfl
 ·rw[if_neg (by omega)]
  obtain⟨m,rfl⟩:∃m,n=m+1:=⟨n-1,by omega⟩
  have hle:=h.le
  have hml:m<l.length:=by rw[h.len];omega
  have e1:(((m+1:Nat):Int)-1)=(m:Int):=by omega
  rw[e1,Int.toNat_natCast,q4G,yW hml]
  have hg:=h.dig _ (List.getElem_mem hml)
  have e2:Lib.itoa l[m]=tN l[m].toNat:=by rw[qsY,qjr (by omega)];congr 1;omega
  obtain⟨t1,t2,t3⟩:=qpd h.len h.dig m (by omega)
  have hnz:l[m]≠0:=by
   rcases hn with hn|hn
   ·omega
   ·rw[Nat.add_sub_cancel,yW hml] at hn;exact hn
  have hlo:=h.lo hn h0
  have hp:=qac m
  simp only[Nat.add_sub_cancel] at hlo
  have hv:((val (tN l[m].toNat++qjs (rI l) m):Nat):Int)=mv l:=by
   rw[qqB,q5J,t2,qa4 l m (by omega),qaG hml,vz h.dig h.z (Nat.le_refl _),qxP]
   simp only[Int.natCast_add,Int.natCast_mul,t3]
   rw[Int.toNat_of_nonneg hg.1]
   grind
  have hT:tN l[m].toNat++qjs (rI l) m=tN (mv l).toNat:=by
   have hd:qdu (tN l[m].toNat++qjs (rI l) m):=qiW.2 ⟨yT _,t1⟩
   have hne:tN l[m].toNat++qjs (rI l) m≠[]:=by simp[qnp]
   have hz:(tN l[m].toNat++qjs (rI l) m).getD 0 0≠48:=by
    have hv0:=q5J l[m].toNat
    have hd0:=yT l[m].toNat
    rcases qwT l[m].toNat with h1|h1
    ·obtain⟨c,e⟩:=List.length_eq_one_iff.1 h1
     rw[e] at hv0 ⊢
     simp only[List.cons_append,List.getD_cons_zero]
     intro hc;subst hc
     rw[qtP] at hv0
     simp[dv] at hv0;omega
    ·obtain⟨c,t,e,_⟩:=qfM hd0 (qnp _)
     rw[e] at h1 ⊢
     simpa using h1
   have:=qty hd hne (.inr hz)
   rw[this];congr 1;omega
  rw[e2,List.append_assoc,hT]
  unfold sv
  cases b
  ·rw[if_neg (by simp),if_neg (by simp),qjr (by omega)];simp;congr 1;omega
  ·rw[if_pos rfl,if_pos rfl,qdN (by omega)];simp;congr 1;omega
theorem qwr{n:Nat}{l:List Int}(h:WOK n l):qq9 (n:Int) (rI l)=true:=by
 unfold qq9
 have:=h.le
 simp only[Bool.and_eq_true,decide_eq_true_eq,List.all_eq_true,List.mem_range]
 refine⟨⟨by omega,by omega⟩,fun i _=>?_⟩
 have:=h.get i
 rw[q4G];exact this
theorem quP{n:Nat}{l:List Int}(h:WOK n l)(hn:nrm n l)(b:Bool):(qK [.b b,.i (n:Int),.r (rI l)]).run=some (0,[.s (tI (sv b l)),.b b,.i (n:Int),.r (rI l)]):=by
 show (qxj [.b b,.i (n:Int),.r (rI l)]).run=_
 unfold qxj
 simp only
 rw[if_pos (qwr h),qyV h hn];rfl
end Go.Eng

namespace Go.Eng
theorem qzN{nr ny:Nat}{lr ly:List Int}(hr:WOK nr lr)(hnr:nrm nr lr)(hy:WOK ny ly)(hny:nrm ny ly)(h0:ny≠0)(hy231:ny≤231)(hlt:mv lr<mv ly*1000000000)(y0:Int)(xb:Bool)(xi:Int)(xr:R)(b2:Bool)(qb:Bool)(qi:Int)(qr:R)(br:Bool) :
  ∃(d:Int) (n:Nat) (l:List Int),(qj yb [.i y0,.i 0,.b xb,.i xi,.r xr,.b b2,.i (ny:Int),.r (rI ly),.b qb,.i qi,.r qr,.b br,.i (nr:Int),.r (rI lr)]).run =
   some (0,[.i y0,.i d,.b xb,.i xi,.r xr,.b b2,.i (ny:Int),.r (rI ly),.b qb,.i qi,.r qr,.b br,.i (n:Int),.r (rI l)])∧WOK n l∧nrm n l∧0≤d∧d<1000000000∧mv lr=d*mv ly+mv l∧mv l<mv ly:=by
 have hyp:0<mv ly:=by
  have:=hy.lo hny h0
  have:=qac (ny-1)
  omega
 have hyb:=hy.bd
 obtain⟨j,qs,g1,rfl,d,n,l,rfl,g2⟩:=q8l (S:=yb) (fun k ps=>∃(d:Int) (n:Nat) (l:List Int),ps=[.i y0,.i d,.b xb,.i xi,.r xr,.b b2,.i (ny:Int),.r (rI ly),.b qb,.i qi,.r qr,.b br,.i (n:Int),.r (rI l)] ∧
   WOK n l∧nrm n l∧0≤d∧d+k=1000000000∧mv lr=d*mv ly+mv l)
  (fun j qs=>j=0∧∃(d:Int) (n:Nat) (l:List Int),qs=[.i y0,.i d,.b xb,.i xi,.r xr,.b b2,.i (ny:Int),.r (rI ly),.b qb,.i qi,.r qr,.b br,.i (n:Int),.r (rI l)]∧WOK n l∧nrm n l∧0≤d∧d<1000000000∧mv lr=d*mv ly+mv l∧mv l<mv ly) (n:=1000000000) (by omega)
  (fun k ps hk ⟨d,n,l,hps,hw,hn,hd0,hdk,hv⟩=>by
   subst hps
   have hlb:=hw.bd
   have hdlt:d<1000000000:=by
    rcases Int.lt_or_le d 1000000000 with h|h
    ·exact h
    ·have:=Int.mul_le_mul_of_nonneg_right h (show 0≤mv ly by omega)
     rw[Int.mul_comm (mv ly)] at hlt
     omega
   rw[qht]
   obtain⟨r,r1,r2⟩:=quI hw hn hy hny br b2
   by_cases hle:mv ly≤mv l
   ·left
    have hr0:0≤r:=by rw[r2];exact hle
    have hdm:=Int.mul_nonneg hd0 (show 0≤mv ly by omega)
    have hl9:mv l<pB (ny+1):=by rw[q8K];omega
    obtain⟨q,e1,e2,e3,e4⟩:=qwq hw hn hy hny h0 hle hl9 hy231 br b2
    obtain⟨n',l',c1,c2,c3,c4⟩:=qnC (f:=-q) (up:=0) hw hy (by omega) (by omega) (T:=mv l-q*mv ly) (by rw[q5x,Int.mul_one,Int.neg_mul];omega) (by omega)
     (by have:=hlb.2;have:=qaM hw.le;have:=Int.mul_nonneg (show 0≤q by omega) (show 0≤mv ly by omega);omega) br b2
    have hq2:(d+q)*mv ly+(mv l-q*mv ly)=d*mv ly+mv l:=by rw[Int.add_mul];omega
    have hdq:d+q<1000000000:=by
     rcases Int.lt_or_le (d+q) 1000000000 with h|h
     ·exact h
     ·have:=Int.mul_le_mul_of_nonneg_right h (show 0≤mv ly by omega)
      rw[Int.mul_comm (mv ly)] at hlt
      omega
    have w1:qB .i64 0 q=-q:=qtb (by omega)
    have w2:qk .i64 d q=d+q:=wv (by omega)
    simp only[show ((0:Nat):Int)=0 from rfl] at c1
    refine⟨(1000000000-(d+q)).toNat,[.i y0,.i (d+q),.b xb,.i xi,.r xr,.b b2,.i (ny:Int),.r (rI ly),.b qb,.i qi,.r qr,.b br,.i (n':Int),.r (rI l')],by omega,?_,d+q,n',l',rfl,c2,c3,by omega,by omega,by rw[c4];omega⟩
    simp only[STD,r1,hr0,e1,w1,w2,c1]
   ·right
    have hr0:¬0≤r:=by rw[r2];exact hle
    refine⟨0,_,?_,rfl,d,n,l,rfl,hw,hn,hd0,hdlt,hv,by omega⟩
    simp only[STD,r1,hr0]) (ps:=[.i y0,.i 0,.b xb,.i xi,.r xr,.b b2,.i (ny:Int),.r (rI ly),.b qb,.i qi,.r qr,.b br,.i (nr:Int),.r (rI lr)]) ⟨0,nr,lr,rfl,hr,hnr,by omega,by omega,by omega⟩
 exact⟨d,n,l,g1,g2⟩
theorem qzw{n:Nat}{l:List Int}{d:Int}(h:WOK n l)(hn:n≤231)(hd:0≤d∧d<1000000000) :
  qe7 (qi2 (rI l) 1 (rI l) 0 (q9c (qwL (n:Int) 0) (qwL 232 1))) 0 0 [.i d]=rI (d::(l.take n++l.drop (1+n)))∧WOK (n+1) (d::(l.take n++l.drop (1+n)))∧mv (d::(l.take n++l.drop (1+n)))=d+1000000000*mv l:=by
 have hlen:=h.len
 have e1:q9c (qwL (n:Int) 0) (qwL 232 1)=(n:Int):=by unfold q9c qwL;split<;>omega
 obtain⟨x,t,rfl⟩:∃x t,l=x::t:=by
  cases l with
  | nil=>simp at hlen
  | cons x t=>exact⟨x,t,rfl⟩
 refine⟨?_,⟨by simp;simp at hlen;omega,by omega,?_,?_⟩,?_⟩
 ·rw[e1]
  unfold qi2
  have:(rI (x::t)).take (1:Int).toNat++((rI (x::t)).drop (0:Int).toNat).take (n:Int).toNat++(rI (x::t)).drop ((1:Int).toNat+(n:Int).toNat)=rI (x::((x::t).take n++(x::t).drop (1+n))):=by
   rw[Int.toNat_natCast]
   simp[rI,List.map_take,List.map_drop]
  rw[this,show (0:Int)=((0:Nat):Int) from rfl,qhG]
  rfl
 ·intro y hy
  rcases List.mem_cons.1 hy with rfl|hy
  ·exact hd
  ·rcases List.mem_append.1 hy with hy|hy
   ·exact h.dig _ (List.mem_of_mem_take hy)
   ·exact h.dig _ (List.mem_of_mem_drop hy)
 ·intro i hi
  obtain⟨j,rfl⟩:∃j,i=j+1:=⟨i-1,by omega⟩
  have hz:=h.z (j+1) (by omega)
  rw[List.getD_eq_getElem?_getD] at hz ⊢
  rw[List.getElem?_cons_succ,List.getElem?_append_right (by simp;omega)]
  rw[List.getElem?_drop,List.length_take,Nat.min_eq_left (by omega)]
  rw[show 1+n+(j-n)=j+1 by omega]
  exact hz
 ·show d+1000000000*mv _=_
  rw[qv7,List.length_take,Nat.min_eq_left (by omega),vz h.dig h.z (show n≤1+n by omega)]
  have:=qa4 (x::t) n (by omega)
  rw[vz h.dig h.z (Nat.le_refl n)] at this
  omega
theorem qf5{nx ny:Nat}{lx ly:List Int}(hx:WOK nx lx)(hy:WOK ny ly)(hny:nrm ny ly)(h0:ny≠0)(hy231:ny≤231)(bx b2:Bool) :
  ∃(nq:Nat) (lq:List Int) (nr:Nat) (lr:List Int),(wL [.b bx,.i (nx:Int),.r (rI lx),.b b2,.i (ny:Int),.r (rI ly)]).run =
   some (0,[.b bx,.i (nx:Int),.r (rI lx),.b b2,.i (ny:Int),.r (rI ly),.b false,.i (nq:Int),.r (rI lq),.b false,.i (nr:Int),.r (rI lr)])∧WOK nq lq∧nrm nq lq∧WOK nr lr∧nrm nr lr∧mv lx=mv lq*mv ly+mv lr∧mv lr<mv ly:=by
 rw[qlj]
 have hyp:0<mv ly:=by
  have:=hy.lo hny h0
  have:=qac (ny-1)
  omega
 have hx232:=hx.le
 have e0:q6p 232 [.i 0]=rI (List.replicate 232 0):=qqE 232 0
 have hxl:=hx.len
 obtain⟨j,qs,g1,rfl,nq,lq,nr,lr,rfl,g2,g3,g4,g5,g6⟩:=q8l (S:=q0a) (fun k ps=>∃(Q:Int) (nq:Nat) (lq:List Int) (nr:Nat) (lr:List Int),
   ps=[.i ((k:Int)-1),.b bx,.i (nx:Int),.r (rI lx),.b b2,.i (ny:Int),.r (rI ly),.b false,.i (nq:Int),.r (rI lq),.b false,.i (nr:Int),.r (rI lr)]∧k≤nx∧WOK nq lq∧WOK nr lr∧nrm nr lr∧mv (lx.drop k)=Q*mv ly+mv lr∧mv lr<mv ly∧mv lq=pB k*Q∧∀i,i<k→lq.getD i 0=0)
  (fun j qs=>j=0∧∃(nq:Nat) (lq:List Int) (nr:Nat) (lr:List Int),qs=[.b bx,.i (nx:Int),.r (rI lx),.b b2,.i (ny:Int),.r (rI ly),.b false,.i (nq:Int),.r (rI lq),.b false,.i (nr:Int),.r (rI lr)]∧WOK nq lq∧WOK nr lr∧nrm nr lr∧mv lx=mv lq*mv ly+mv lr∧mv lr<mv ly) (n:=nx) (by omega)
  (fun k ps hk ⟨Q,nq,lq,nr,lr,hps,hkn,hwq,hwr,hnr,hv,hlt,hq,hz⟩=>by
   subst hps
   rw[qiD]
   rcases Nat.eq_zero_or_pos k with rfl|hk0
   ·right
    have a1:¬(0:Int)≤((0:Nat):Int)-1:=by omega
    refine⟨0,[.b bx,.i (nx:Int),.r (rI lx),.b b2,.i (ny:Int),.r (rI ly),.b false,.i (nq:Int),.r (rI lq),.b false,.i (nr:Int),.r (rI lr)],?_,rfl,nq,lq,nr,lr,rfl,hwq,hwr,hnr,?_,hlt⟩
    ·simp only[STD,a1]
    ·rw[hq,q5x,Int.one_mul,←hv,List.drop_zero]
   ·left
    obtain⟨i,rfl⟩:∃i,k=i+1:=⟨k-1,by omega⟩
    have e:(((i+1:Nat):Int)-1)=(i:Int):=by omega
    rw[e]
    have hnr231:nr≤231:=Nat.le_trans (qCG hwr hnr hy (by omega)) hy231
    have hil:i<lx.length:=by omega
    have gx:=hx.get i
    obtain⟨s1,s2,s3⟩:=qzw hwr hnr231 (d:=lx.getD i 0) gx
    obtain⟨m,t1,t2,t3⟩:=qiT s2 false
    have hX:mv (lx.drop i)=lx.getD i 0+1000000000*(Q*mv ly+mv lr):=by rw[qaG hil,←hv,yW hil]
    have hlt2:mv (lx.getD i 0::(lr.take nr++lr.drop (1+nr)))<mv ly*1000000000:=by rw[s3];omega
    obtain⟨d,n',l',d1,d2,d3,d4,d5,d6,d7⟩:=qzN t2 t3 hy hny h0 hy231 hlt2 (i:Int) bx (nx:Int) (rI lx) b2 false (nq:Int) (rI lq) false
    rw[s3] at d6
    have a1:(0:Int)≤(i:Int):=by omega
    have a2:(i:Int)<232:=by omega
    have a3:(0:Int)≤232∧(232:Int)≤232:=by omega
    have a4:(0:Int)≤1∧(1:Int)≤232:=by omega
    have a5:(0:Int)≤(nr:Int)∧(nr:Int)≤232:=by omega
    have a6:(0:Int)≤0∧(0:Int)≤(nr:Int):=by omega
    have w1:qk .i64 (nr:Int) 1=((nr+1:Nat):Int):=by rw[wv (by omega)];omega
    have w2:qk .i64 (i:Int) 1=((i+1:Nat):Int):=by rw[wv (by omega)];omega
    have w3:qB .i64 (i:Int) 1=(i:Int)-1:=wA (by omega)
    have w4:qiz (nq:Int) ((i+1:Nat):Int)=((max nq (i+1):Nat):Int):=quu _ _
    have hiq:i<lq.length:=by rw[hwq.len];omega
    have hzi:lq[i]=0:=by rw[←yW hiq];exact hz i (by omega)
    refine⟨i,[.i ((i:Int)-1),.b bx,.i (nx:Int),.r (rI lx),.b b2,.i (ny:Int),.r (rI ly),.b false,.i ((max nq (i+1):Nat):Int),.r (rI (lq.set i d)),.b false,.i (n':Int),.r (rI l')],by omega,?_,Q*1000000000+d,_,_,_,_,rfl,by omega,hwq.setW (by omega) ⟨d4,d5⟩,d2,d3,?_,d7,?_,?_⟩
    ·simp only[q4G,s1,w1]
     simp only[STD,a1,a2,a3,a4,a5,a6,and_self,t1,d1,w2,w3,w4,qhG]
    ·rw[hX,Int.add_mul,Int.mul_add]
     have:Q*1000000000*mv ly=1000000000*(Q*mv ly):=by grind
     omega
    ·rw[qvk lq i hiq,hzi,hq,q8K];grind
    ·intro a ha
     rw[List.getD_eq_getElem?_getD,List.getElem?_set_ne (by omega),←List.getD_eq_getElem?_getD]
     exact hz a (by omega))
  (ps:=[.i ((nx:Int)-1),.b bx,.i (nx:Int),.r (rI lx),.b b2,.i (ny:Int),.r (rI ly),.b false,.i 0,.r (rI (List.replicate 232 0)),.b false,.i 0,.r (rI (List.replicate 232 0))])
  ⟨0,0,_,0,_,rfl,Nat.le_refl _,WOK.zero,WOK.zero,.inl rfl,by rw[vz hx.dig hx.z (Nat.le_refl _),qcQ];omega,by rw[qcQ];exact hyp,by rw[qcQ,Int.mul_zero],fun i _=>qsz 232 i⟩
 obtain⟨m,t1,t2,t3⟩:=qiT g2 false
 refine⟨m,lq,nr,lr,?_,t2,t3,g3,g4,g5,g6⟩
 have hs:qB .i64 (nx:Int) 1=(nx:Int)-1:=wA (by omega)
 simp only[e0,hs]
 simp only[STD,g1,t1]
end Go.Eng

namespace Go.Eng
theorem qBZ{c:UInt8}{t:List UInt8}:qjz (c::t) 0 1=[c]:=by simp[qjz]
theorem qxe(s:List UInt8):(qE [.s s,.s [45]]).run=some (0,[.b (decide (s.getD 0 0=45))]):=by
 rw[q53]
 have h1:wl [45]=1:=rfl
 cases s with
 | nil=>
  have a:¬(1:Int)≤wl []:=by decide
  simp only[STD,h1,a];rfl
 | cons c t=>
  have a:(1:Int)≤wl (c::t):=by unfold wl;simp only[List.length_cons];omega
  simp only[STD,h1,a,show (0:Int)≤1 by omega,show (0:Int)≤0 by omega,and_self,qBZ]
  have e:seq [c] [45]=decide ((c::t).getD 0 0=45):=by rw[Bool.eq_iff_iff,yN];simp
  rw[e]
theorem qqu(s:List UInt8):(qP [.s s,.s [45]]).run=some (0,[.s (mag s)]):=by
 rw[qen]
 have h:(zi [.s s,.s [45]]).run=some (0,[.s (mag s)]):=by
  rw[q4T]
  have h1:wl [45]=1:=rfl
  unfold mag
  by_cases h:s.getD 0 0=45
  ·rw[if_pos h]
   have a:(1:Int)≤wl s:=by
    cases s with
    | nil=>simp at h
    | cons c t=>unfold wl;simp only[List.length_cons];omega
   have e:qjz s 1 (wl s)=s.drop 1:=by unfold qjz wl;simp
   simp only[STD,qxe,h,h1,a,and_self,Int.le_refl,show (0:Int)≤wl s by omega,show (0:Int)≤1 by omega,e]
  ·rw[if_neg h]
   simp only[STD,qxe,h]
 simp only[STD,h]
theorem qdj(s:List UInt8)(hl:s.length≤1000000000):(qM [.s s]).run=some (0,[.i (qvl s)]):=by
 rw[qow]
 have hT:=qqu s
 have hml:(mag s).length≤s.length:=by unfold mag;split<;>simp
 have hR:=qBz (mag s) (by omega)
 have hcan:=qyu s
 unfold qvl
 have hl3:(1024<wl (mag s))=¬((mag s).length≤1024):=by unfold wl;simp only[eq_iff_iff];omega
 by_cases hne:mag s=[]
 ·rw[if_neg (fun h=>(hcan.1 h).1 hne)]
  simp only[STD,hT,yN,hne]
 ·have hp:0<(mag s).length:=List.length_pos_iff.2 hne
  have a1:(0:Int)<wl (mag s):=by unfold wl;omega
  have hs:sat (mag s) 0=((mag s)[0].toNat:Int):=qAx (i:=0) hp
  have h48:((mag s)[0].toNat:Int)=48↔(mag s).getD 0 0=48:=by
   have:(mag s).getD 0 0=(mag s)[0]:=by simp[List.getD_eq_getElem?_getD,hp]
   rw[this]
   exact⟨fun h=>UInt8.toNat_inj.1 (by show (mag s)[0].toNat=48;omega),fun h=>by rw[h];rfl⟩
  by_cases hd:qdu (mag s)
  ·have hs1:((mag s).getD 0 0=48→s.length=1)↔(((mag s)[0].toNat:Int)=48→s=[48]):=by
    rw[h48]
    constructor
    ·intro h h2
     obtain⟨c,e⟩:=List.length_eq_one_iff.1 (h h2)
     subst e
     by_cases hc:c=45
     ·subst hc;exact absurd rfl hne
     ·have:mag [c]=[c]:=by unfold mag;rw[if_neg (by simpa using hc)]
      rw[this] at h2
      simp at h2
      rw[h2]
    ·intro h h2
     rw[h h2];rfl
   by_cases hz:((mag s)[0].toNat:Int)=48
   ·by_cases h0:s=[48]
    ·rw[if_pos (hcan.2 ⟨hne,hd,hs1.2 fun _=>h0⟩)]
     by_cases hL:(mag s).length≤1024
     ·simp only[STD,hT,hR,yN,hne,qfC,hd,a1,hs,hz,hl3,hL,Int.le_refl,and_self]
      simp only[STD,h0]
     ·simp only[STD,hT,hR,yN,hne,qfC,hd,a1,hs,hz,hl3,hL,Int.le_refl,and_self]
      simp only[STD,h0]
    ·rw[if_neg (fun h=>h0 (hs1.1 (hcan.1 h).2.2 hz))]
     simp only[STD,hT,hR,yN,hne,qfC,hd,a1,hs,hz,h0,Int.le_refl,and_self]
   ·rw[if_pos (hcan.2 ⟨hne,hd,fun h=>absurd (h48.2 h) hz⟩)]
    by_cases hL:(mag s).length≤1024
    ·simp only[STD,hT,hR,yN,hne,qfC,hd,a1,hs,hz,hl3,hL,Int.le_refl,and_self]
    ·simp only[STD,hT,hR,yN,hne,qfC,hd,a1,hs,hz,hl3,hL,Int.le_refl,and_self]
  ·rw[if_neg (fun h=>hd (hcan.1 h).2.1)]
   simp only[STD,hT,hR,yN,hne,qfC,hd]
def okL(m:Int):Prop:=nl m≤1024
theorem qtu{m:Int}(h:okL m):qvl (tI m)=0:=by
 unfold qvl
 rw[if_pos ⟨m,rfl⟩,qrL,if_pos (show (tN m.natAbs).length≤1024 from h)]
theorem qud{m:Int}(h:okL m):(tI m).length≤1025:=by
 have:=qA2 m
 unfold okL nl at h
 omega
theorem qdd{m:Int}(h:okL m):(qM [.s (tI m)]).run=some (0,[.i 0]):=by
 have:=qud h
 rw[qdj _ (by omega),qtu h]
def rS(l:List (List UInt8)):R:=l.map fun s=>[.s s]
theorem qoV(l:List (List UInt8)):qf (rS l)=l.length:=by simp[rS,qf]
theorem qyN{l:List (List UInt8)}{i:Nat}(h:i<l.length):cS (rS l) (i:Int) 0=l[i]:=by simp[cS,j5,rS,List.getD_eq_getElem?_getD,h,U.toS]
theorem qCl{l:List (List UInt8)}(hn:l.length<1000000)(h:∀s,s∈l→(qM [.s s]).run=some (0,[.i 0])):(zX [.r (rS l)]).run=some (0,[.i 0]):=by
 rw[qrx,qoV]
 have key:=wc (S:=q5e) (fun i=>[.r (rS l),.i (l.length:Int),.i (i:Int)]) (0,[]) l.length (by omega) (fun i hi=>by
  rw[qgz,qyN hi]
  have a1:(i:Int)<(l.length:Int):=by omega
  have a2:(i:Int)<qf (rS l):=by rw[qoV];exact a1
  simp only[STD,a1,a2,jT,and_self,h _ (List.getElem_mem hi),q1o hi (show l.length<9223372036854775808 by omega)]) (by
  rw[qgz]
  have a1:¬(l.length:Int)<(l.length:Int):=by omega
  simp only[STD,a1])
 simp only[show (((0:Nat)):Int)=0 from rfl] at key
 simp only[STD,key,qW key]
theorem qdD{m n:Int}(hm:okL m)(hn:okL n):(zX [.r [[.s (tI m)],[.s (tI n)]]]).run=some (0,[.i 0]):=by
 have:=qCl (l:=[tI m,tI n]) (by simp) (fun s hs=>by
  simp only[List.mem_cons,List.not_mem_nil,or_false] at hs
  rcases hs with rfl|rfl
  ·exact qdd hm
  ·exact qdd hn)
 exact this
theorem q6a(n:Int)(h:-9223372036854775808≤n∧n≤9223372036854775807):(zt [.i n]).run=some (0,[.s (tI n)]):=by
 rw[qum]
 simp only[STD,qBP n h]
theorem q5Y(m:Int):(tI m=[48])=(m=0):=propext ⟨fun h=>qvr (n:=0) h,fun h=>by rw[h];rfl⟩
theorem q2b(m:Int):(yZ [.s (tI m)]).run=some (0,[.i (sgn m)]):=by
 rw[qqp]
 have a1:(0:Int)<wl (tI m):=by have:=qs3 m;unfold wl;omega
 have hs:(sat (tI m) 0=45)=(m<0):=qAn m
 unfold sgn
 by_cases h0:m=0
 ·simp only[STD,yN,q5Y,h0];rfl
 ·by_cases h1:m<0
  ·simp only[STD,yN,q5Y,h0,a1,hs,h1,Int.le_refl,and_self]
  ·simp only[STD,yN,q5Y,h0,a1,hs,h1,Int.le_refl,and_self]
theorem qrG{m:Int}(h:okL m):(q73 [.s (tI m)]).run=some (0,[.i (sgn m),.i 0]):=by
 rw[qqS]
 simp only[STD,qdd h,q2b]
theorem qAN(m n:Nat):(q5p [.s (tN m),.s (tN n)]).run=some (0,[.i (sgn ((m:Int)-(n:Int)))]):=by
 rw[qoj]
 have hl:(wl (tN m)=wl (tN n))=((tN m).length=(tN n).length):=by unfold wl;simp only[eq_iff_iff];omega
 have hl2:(wl (tN m)<wl (tN n))=((tN m).length<(tN n).length):=by unfold wl;simp only[eq_iff_iff];omega
 by_cases he:(tN m).length=(tN n).length
 ·have h:=qvA (yT m) (yT n) he
  rw[q5J,q5J] at h
  simp only[STD,hl,he,h]
 ·by_cases hlt:(tN m).length<(tN n).length
  ·have h:=(qxs m n).1 (.inl hlt)
   simp only[STD,hl,hl2,he,hlt]
   unfold sgn
   rw[if_pos (by omega)]
  ·have h:=(qxs n m).1 (.inl (by omega))
   simp only[STD,hl,hl2,he,hlt]
   unfold sgn
   rw[if_neg (by omega),if_neg (by omega)]
theorem qc2(m:Int):(m<0∧sgn m=-1)∨(m=0∧sgn m=0)∨(0<m∧sgn m=1):=by
 unfold sgn
 rcases Int.lt_trichotomy m 0 with h|h|h
 ·rw[if_pos h];omega
 ·subst h;simp
 ·rw[if_neg (by omega),if_neg (by omega)];omega
theorem qnB(m:Int):-1≤sgn m∧sgn m≤1:=by rcases qc2 m with⟨_,e⟩|⟨_,e⟩|⟨_,e⟩<;>omega
theorem qAY(m n:Int):(if sgn m<sgn n then -1 else if sgn n<sgn m then 1 else sgn m*sgn ((m.natAbs:Int)-(n.natAbs:Int)))=sgn (m-n):=by
 rcases qc2 m with⟨a,ea⟩|⟨a,ea⟩|⟨a,ea⟩<;>rcases qc2 n with⟨b,eb⟩|⟨b,eb⟩|⟨b,eb⟩<;>rw[ea,eb]<;>simp only[Int.reduceLT,Int.reduceNeg,if_true,if_false] <;>
  rcases qc2 (m-n) with⟨c,ec⟩|⟨c,ec⟩|⟨c,ec⟩<;>rcases qc2 ((m.natAbs:Int)-(n.natAbs:Int)) with⟨d,ed⟩|⟨d,ed⟩|⟨d,ed⟩<;>omega
theorem qnb{m n:Int}(hm:okL m)(hn:okL n):(q2v [.s (tI m),.s (tI n)]).run=some (0,[.i (sgn (m-n)),.i 0]):=by
 rw[qlm]
 have h1:=qqu (tI m)
 have h2:=qqu (tI n)
 rw[qrL] at h1 h2
 have h3:=qAN m.natAbs n.natAbs
 have hw:∀a b:Int,-1≤a∧a≤1→-1≤b∧b≤1→jF .i64 a b=a*b:=fun a b ha hb=>yP (by have:=qu4 (A:=1) (B:=1) ha.1 ha.2 hb.1 hb.2;omega)
 have ba:=qnB m
 have bb:=qnB n
 have bc:=qnB ((m.natAbs:Int)-(n.natAbs:Int))
 have e:=qAY m n
 by_cases c1:sgn m<sgn n
 ·rw[if_pos c1] at e
  simp only[STD,qdD hm hn,q2b,h1,h2,h3,c1,←e]
 ·rw[if_neg c1] at e
  by_cases c2:sgn n<sgn m
  ·rw[if_pos c2] at e
   simp only[STD,qdD hm hn,q2b,h1,h2,h3,c1,c2,←e]
  ·rw[if_neg c2] at e
   simp only[STD,qdD hm hn,q2b,h1,h2,h3,c1,c2,hw _ _ ba bc,←e]
theorem qkR(m:Int)(hm:nl m≤2000):∃(n:Nat) (l:List Int),(zB [.s (tI m)]).run=some (0,[.b (decide (m<0)),.i (n:Int),.r (rI l)])∧WOK n l∧nrm n l∧mv l=m.natAbs∧9*n≤nl m+8:=by
 rw[qqN]
 have h1:=qqu (tI m)
 rw[qrL] at h1
 have a1:(0:Int)<wl (tI m):=by have:=qs3 m;unfold wl;omega
 have hb:ieq (sat (tI m) 0) 45=decide (m<0):=by
  rw[Bool.eq_iff_iff,qjI,qAn];simp
 have e0:q6p 232 [.i 0]=rI (List.replicate 232 0):=qqE 232 0
 have hL:(tN m.natAbs).length≤2000:=hm
 obtain⟨j,qs,g1,rfl,n,l,rfl,g2,g3,g4⟩:=q8l (S:=q3I) (fun k ps=>∃(n:Nat) (l:List Int),ps=[.s ((tN m.natAbs).take k),.b (decide (m<0)),.i (n:Int),.r (rI l)]∧k≤(tN m.natAbs).length∧WOK n l ∧
   (k=0∧9*n≤(tN m.natAbs).length+8∨k+9*n=(tN m.natAbs).length)∧((val (tN m.natAbs):Nat):Int)=((val ((tN m.natAbs).take k):Nat):Int)*pB n+mv l)
  (fun j qs=>j=0∧∃(n:Nat) (l:List Int),qs=[.b (decide (m<0)),.i (n:Int),.r (rI l)]∧WOK n l∧mv l=m.natAbs∧9*n≤(tN m.natAbs).length+8) (n:=(tN m.natAbs).length) (by omega)
  (fun k ps hk ⟨n,l,hps,hkl,hw,hkn,hv⟩=>by
   subst hps
   rw[qnO]
   have hlk:wl ((tN m.natAbs).take k)=(k:Int):=by unfold wl;rw[List.length_take,Nat.min_eq_left hkl]
   rcases Nat.eq_zero_or_pos k with rfl|hk0
   ·right
    refine⟨0,[.b (decide (m<0)),.i (n:Int),.r (rI l)],?_,rfl,n,l,rfl,hw,?_,by omega⟩
    ·have a:¬(0:Int)<wl ((tN m.natAbs).take 0):=by rw[hlk];omega
     simp only[STD,a]
    ·rw[q5J,List.take_zero,qpG] at hv
     simp at hv;omega
   ·left
    have hn231:n≤231:=by omega
    obtain⟨q,hq,hq9⟩:∃q:Nat,qiz 0 (qB .i64 (k:Int) 9)=(q:Int)∧q=k-9:=by
     refine⟨k-9,?_,rfl⟩
     rw[wA (by omega)];unfold qiz;split<;>omega
    have hqk:q≤k:=by omega
    have hsub:qjz ((tN m.natAbs).take k) (q:Int) (k:Int)=((tN m.natAbs).take k).drop q:=by unfold qjz;simp[List.take_take]
    have hsub2:qjz ((tN m.natAbs).take k) 0 (q:Int)=(tN m.natAbs).take q:=by unfold qjz;simp[List.take_take,Nat.min_eq_left hqk]
    have hdg:qdu (((tN m.natAbs).take k).drop q):=qyb (qys (yT _) k) q
    have hdl:(((tN m.natAbs).take k).drop q).length=k-q:=by rw[List.length_drop,List.length_take,Nat.min_eq_left hkl]
    have hdn:((tN m.natAbs).take k).drop q≠[]:=by intro h;rw[h] at hdl;simp at hdl;omega
    have hA:=qym (s:=((tN m.natAbs).take k).drop q) (by omega) (qra hdg hdn)
    have hvl:=qeV hdg
    rw[hdl] at hvl
    have hv9:val (((tN m.natAbs).take k).drop q)<1000000000:=Nat.lt_of_lt_of_le hvl (by
     have:(10:Nat)^(k-q)≤10^9:=Nat.pow_le_pow_right (by omega) (by omega)
     simpa using this)
    have b1:(0:Int)<(k:Int):=by omega
    have b2:(0:Int)≤(q:Int)∧(q:Int)≤(k:Int):=by omega
    have b3:(0:Int)≤(k:Int)∧(k:Int)≤(k:Int):=by omega
    have b4:(0:Int)≤(n:Int)∧(n:Int)<232:=by omega
    have b5:(0:Int)≤0∧(0:Int)≤(q:Int):=by omega
    have w1:qk .i64 (n:Int) 1=((n+1:Nat):Int):=by rw[wv (by omega)];omega
    have hnl:n<l.length:=by rw[hw.len];omega
    have hz:l[n]=0:=by rw[←yW hnl];exact hw.z n (Nat.le_refl _)
    have hW:=hw.setW (j:=n) (y:=((val (((tN m.natAbs).take k).drop q):Nat):Int)) (by omega) (by omega)
    rw[Nat.max_eq_right (by omega)] at hW
    refine⟨q,[.s ((tN m.natAbs).take q),.b (decide (m<0)),.i ((n+1:Nat):Int),.r (rI (l.set n ((val (((tN m.natAbs).take k).drop q):Nat):Int)))],by omega,?_,n+1,_,rfl,by omega,hW,by omega,?_⟩
    ·simp only[STD,hlk,b1,hq,b2,b3,b4,b5,and_self,hsub,hsub2,hA,w1,qhG]
    ·rw[qvk l n hnl,hz,hv]
     have hsp:val ((tN m.natAbs).take k)=val ((tN m.natAbs).take q)*10^(k-q)+val (((tN m.natAbs).take k).drop q):=by
      have h1:(tN m.natAbs).take k=((tN m.natAbs).take k).take q++((tN m.natAbs).take k).drop q:=(List.take_append_drop q _).symm
      have h2:((tN m.natAbs).take k).take q=(tN m.natAbs).take q:=by rw[List.take_take,Nat.min_eq_left hqk]
      rw[h2] at h1
      generalize ((tN m.natAbs).take k).drop q=D at *
      rw[h1,qqB,hdl]
     rw[hsp,q8K]
     rcases Nat.lt_or_ge k 9 with h9|h9
     ·have:q=0:=by omega
      subst this
      rw[List.take_zero,qpG]
      simp;omega
     ·have:k-q=9:=by omega
      rw[this]
      simp only[Int.natCast_add,Int.natCast_mul]
      have e9:(((10:Nat)^9:Nat):Int)=1000000000:=by simp
      rw[e9]
      grind) (ps:=[.s ((tN m.natAbs).take (tN m.natAbs).length),.b (decide (m<0)),.i 0,.r (rI (List.replicate 232 0))])
  ⟨0,_,rfl,Nat.le_refl _,WOK.zero,.inr (by omega),by rw[q5x,List.take_length,qcQ];simp⟩
 rw[List.take_length] at g1
 obtain⟨n2,t1,t2,t3⟩:=qiT g2 (decide (m<0))
 refine⟨n2,l,?_,t2,t3,g3,?_⟩
 ·simp only[STD,e0,hb,h1,a1,Int.le_refl,and_self,g1,t1]
 ·have:=qCG t2 t3 g2 (Int.le_refl _)
  unfold nl;omega
end Go.Eng

namespace Go.Eng
theorem qAq{m:Int}{k n:Nat}(h:nl m≤k)(hk:k≤9*n):(m.natAbs:Int)<pB n:=by
 rw[qxP]
 have h1:=qBv h
 have h2:(10:Nat)^k≤10^(9*n):=Nat.pow_le_pow_right (by omega) hk
 omega
theorem qpq{m:Int}(h:okL m):(m.natAbs:Int)<pB 114:=qAq (k:=1024) h (by omega)
theorem qpZ{m:Int}(h:okL m):okL (-m):=by unfold okL;rw[qxT];exact h
theorem qxY{n:Nat}:pB n+pB n≤pB (n+1):=by rw[q8K];have:=qac n;omega
theorem qCh{b:Bool}{l:List Int}(h:0≤mv l):((sv b l).natAbs:Int)=mv l:=by unfold sv;cases b<;>simp<;>omega
theorem qs4{n:Nat}{l:List Int}(h:WOK n l)(hn:nrm n l)(b:Bool)(hk:okL (sv b l)):(zS [.b b,.i (n:Int),.r (rI l)]).run=some (0,[.s (tI (sv b l)),.i 0,.b b,.i (n:Int),.r (rI l)]):=by
 rw[qfk]
 simp only[STD,quP h hn,qdd hk]
theorem qte(m n:Int):(yO [.s (tI m),.s (tI n)]).run=some (0,if (tI m).length≤9∧(tI n).length≤9 then [.i m,.i n,.b true] else [.i 0,.i 0,.b false]):=by
 rw[qo3]
 have h1:(9<wl (tI m))=¬(tI m).length≤9:=by unfold wl;simp only[eq_iff_iff];omega
 have h2:(9<wl (tI n))=¬(tI n).length≤9:=by unfold wl;simp only[eq_iff_iff];omega
 by_cases a:(tI m).length≤9
 ·by_cases b:(tI n).length≤9
  ·simp only[STD,h1,h2,a,b,and_self,qym (s:=tI m) (by omega) (qxO m),qym (s:=tI n) (by omega) (qxO n)]
  ·simp only[STD,h1,h2,a,b,and_false]
 ·simp only[STD,h1,a,false_and]
theorem qfN{m:Int}(h:(tI m).length≤9):m.natAbs<1000000000:=by
 have:(tN m.natAbs).length≤9:=by
  unfold tI at h
  split at h
  ·simp at h;omega
  ·exact h
 exact Nat.lt_of_lt_of_le (qin this) (by simp)
theorem qvj(n:Int)(h:-9223372036854775808≤n∧n≤9223372036854775807):(kO [.i n]).run=some (0,[.s (tI n),.i 0]):=by
 rw[qna]
 simp only[STD,q6a n h]
theorem qyP{m:Int}{l:List Int}(h:mv l=m.natAbs):sv (decide (m<0)) l=m:=by
 unfold sv
 by_cases hm:m<0
 ·rw[decide_eq_true hm,if_pos rfl];omega
 ·rw[decide_eq_false hm,if_neg (by simp)];omega
theorem qBp{m n:Int}(hm:okL m)(hn:okL n)(hs:okL (m+n)):(q96 [.r [[.s (tI m)],[.s (tI n)]]]).run=some (0,[.s (tI (m+n)),.i 0]):=by
 rw[qrI]
 have e0:q6p 232 [.i 0]=rI (List.replicate 232 0):=qqE 232 0
 have lm:=qpq hm
 have ln:=qpq hn
 obtain⟨q1,l1,r1,w1,n1,v1,_⟩:=qkR m (by unfold okL at hm;omega)
 obtain⟨q2,l2,r2,w2,n2,v2,_⟩:=qkR n (by unfold okL at hn;omega)
 have hb2:=qaM (show 115≤232 by omega)
 have hb1:pB 114+pB 114≤pB 115:=qxY
 have hb0:=qac 114
 obtain⟨b1,k1,m1,a1,a2,a3,a4⟩:=qAj (lx:=List.replicate 232 0) (nx:=0) WOK.zero (.inl rfl) w1 n1 (by rw[qcQ,v1];omega) false (decide (m<0))
 rw[qyP v1] at a4
 have a5:sv b1 m1=m:=by
  have:sv false (List.replicate 232 0)=0:=by unfold sv;rw[if_neg (by simp),qcQ]
  rw[a4,this];omega
 obtain⟨b2,k2,m2,c1,c2,c3,c4⟩:=qAj a2 a3 w2 n2 (by rw[←qCh (b:=b1) a2.bd.1,a5,v2];omega) b1 (decide (n<0))
 rw[qyP v2,a5] at c4
 have key:=wc (S:=q5z) (fun i=>match i with
  | 0=>[.r [[.s (tI m)],[.s (tI n)]],.i 2,.i 0,.b false,.i 0,.r (rI (List.replicate 232 0))]
  | 1=>[.r [[.s (tI m)],[.s (tI n)]],.i 2,.i 1,.b b1,.i (k1:Int),.r (rI m1)]
  | _=>[.r [[.s (tI m)],[.s (tI n)]],.i 2,.i 2,.b b2,.i (k2:Int),.r (rI m2)]) (0,[.b b2,.i (k2:Int),.r (rI m2)]) 2 (by omega) (fun i hi=>by
   have:i=0∨i=1:=by omega
   have d0:cS [[.s (tI m)],[.s (tI n)]] 0 0=tI m:=rfl
   have d1:cS [[.s (tI m)],[.s (tI n)]] 1 0=tI n:=rfl
   have d2:qf [[U.s (tI m)],[U.s (tI n)]]=2:=rfl
   rcases this with rfl|rfl
   ·simp only
    rw[qb8,d0,d2]
    simp only[show ((0:Nat):Int)=0 from rfl] at a1
    have w:qk .i64 0 1=1:=by decide
    simp only[STD,r1,a1,w,show (0:Int)<2 by omega,show (0:Int)≤0 by omega,and_self]
   ·simp only
    rw[qb8,d1,d2]
    have w:qk .i64 1 1=2:=by decide
    simp only[STD,r2,c1,w,show (1:Int)<2 by omega,show (0:Int)≤1 by omega,and_self]) (by
   simp only
   rw[qb8]
   simp only[STD,show ¬(2:Int)<2 by omega])
 simp only at key
 have hL:=qs4 c2 c3 b2 (by rw[c4];exact hs)
 rw[c4] at hL
 have d2:qf [[U.s (tI m)],[U.s (tI n)]]=2:=rfl
 simp only[e0,d2]
 simp only[STD,key,hL]
theorem qC7{m n:Int}(hm:okL m)(hn:okL n)(hs:okL (m+n)):(q2n [.s (tI m),.s (tI n)]).run=some (0,[.s (tI (m+n)),.i 0]):=by
 rw[qsL]
 have h:=qte m n
 by_cases hc:(tI m).length≤9∧(tI n).length≤9
 ·rw[if_pos hc] at h
  have b1:=qfN hc.1
  have b2:=qfN hc.2
  have w:qk .i64 m n=m+n:=wv (by omega)
  simp only[STD,qdD hm hn,h,w,qvj (m+n) (by omega)]
 ·rw[if_neg hc] at h
  simp only[STD,qdD hm hn,h,qBp hm hn hs]
theorem qvZ{m:Int}(hm:okL m):(q1p [.s (tI m)]).run=some (0,[.s (tI (-m))]):=by
 rw[qjG]
 have hl:=qud hm
 have hp:=qs3 m
 rcases qc2 m with⟨h,e⟩|⟨h,e⟩|⟨h,e⟩
 ·have a1:(0:Int)≤wl (tI m)∧wl (tI m)≤wl (tI m):=by unfold wl;omega
  have a2:(0:Int)≤1∧1≤wl (tI m):=by unfold wl;omega
  have a3:qjz (tI m) 1 (wl (tI m))=tI (-m):=by
   unfold qjz wl
   rw[qdN h,qjr (m:=-m) (by omega),Int.natAbs_neg];simp
  simp only[STD,q2b,e,a1,a2,a3,and_self,show ¬((-1:Int)=0) by omega,show ¬((-1:Int)=1) by omega]
 ·simp only[STD,q2b,e]
  rw[h];rfl
 ·have a1:wl [45]+wl (tI m)≤140737488355328:=by unfold wl;simp;omega
  have a3:qs6 [45] (tI m)=tI (-m):=by
   unfold qs6
   rw[qdN (m:=-m) (by omega),qjr (m:=m) (by omega),Int.natAbs_neg];rfl
  simp only[STD,q2b,e,a1,a3,show ¬((1:Int)=0) by omega]
theorem qCF{m n:Int}(hm:okL m)(hn:okL n)(hs:okL (m-n)):(q64 [.s (tI m),.s (tI n)]).run=some (0,[.s (tI (m-n)),.i 0]):=by
 rw[qrU]
 have h:=qC7 hm (qpZ hn) (by rwa [←Int.sub_eq_add_neg])
 rw[←Int.sub_eq_add_neg] at h
 simp only[STD,qdD hm hn,qvZ hn,h]
theorem qCu{m n:Int}(hm:okL m)(hn:okL n)(hs:okL (m*n)):(q4w [.s (tI m),.s (tI n)]).run=some (0,[.s (tI (m*n)),.i 0]):=by
 rw[qrv]
 have h:=qte m n
 by_cases hc:(tI m).length≤9∧(tI n).length≤9
 ·rw[if_pos hc] at h
  have b1:=qfN hc.1
  have b2:=qfN hc.2
  have b3:=qu4 (A:=999999999) (B:=999999999) (a:=m) (b:=n) (by omega) (by omega) (by omega) (by omega)
  have w:jF .i64 m n=m*n:=yP (by omega)
  simp only[STD,qdD hm hn,h,w,qvj (m*n) (by omega)]
 ·rw[if_neg hc] at h
  unfold okL at hm hn
  obtain⟨q1,l1,r1,w1,n1,v1,z1⟩:=qkR m (by omega)
  obtain⟨q2,l2,r2,w2,n2,v2,z2⟩:=qkR n (by omega)
  obtain⟨k,l,t1,t2,t3,t4⟩:=qAw w1 w2 (by omega) (decide (m<0)) (decide (n<0))
  have hv:sv (!(Go.Eng.beq (decide (m<0)) (decide (n<0)))) l=m*n:=by
   unfold sv
   rw[t4,v1,v2]
   have e:((m.natAbs:Int)*(n.natAbs:Int))=(((m*n).natAbs:Nat):Int):=by rw[Int.natAbs_mul];simp
   rw[e]
   unfold Go.Eng.beq
   rcases Int.lt_trichotomy m 0 with a|a|a
   ·rcases Int.lt_trichotomy n 0 with b|b|b
    ·have:=Int.mul_pos_of_neg_of_neg a b
     simp[a,b];omega
    ·subst b;simp
    ·have:=Int.mul_neg_of_neg_of_pos a b
     have b':¬n<0:=by omega
     simp[a,b'];omega
   ·subst a;simp
   ·have a':¬m<0:=by omega
    rcases Int.lt_trichotomy n 0 with b|b|b
    ·have:=Int.mul_neg_of_pos_of_neg a b
     simp[a',b];omega
    ·subst b;simp
    ·have:=Int.mul_pos a b
     have b':¬n<0:=by omega
     simp[a',b'];omega
  have hL:=qs4 t2 t3 (!(Go.Eng.beq (decide (m<0)) (decide (n<0)))) (by rw[hv];exact hs)
  rw[hv] at hL
  simp only[STD,qdD hm hn,h,r1,r2,t1,hL]
theorem qx4{n:Nat}{l:List Int}(h:WOK n l)(hn:nrm n l){k:Nat}(hl:mv l<pB k):n≤k:=by
 rcases Nat.lt_or_ge k n with h1|h1
 ·have:=h.lo hn (by omega)
  have:=qaM (show k≤n-1 by omega)
  omega
 ·exact h1
theorem qzy{k n:Int}(h0:n≠0)(hm:okL (k*n))(hn:okL n):(q3P [.s (tI (k*n)),.s (tI n)]).run=some (0,[.s (tI k),.s (tI 0),.i 0]):=by
 rw[qne]
 have h:=qte (k*n) n
 have hz:¬tI n=[48]:=by rw[q5Y];exact h0
 by_cases hc:(tI (k*n)).length≤9∧(tI n).length≤9
 ·rw[if_pos hc] at h
  have b1:=qfN hc.1
  have b2:=qfN hc.2
  have hk:k.natAbs≤(k*n).natAbs:=by
   rw[Int.natAbs_mul]
   have:k.natAbs*1≤k.natAbs*n.natAbs:=Nat.mul_le_mul_left _ (by omega)
   omega
  have w1:qou (k*n) n=0:=by unfold qou;exact Int.mul_tmod_left k n
  have w2:kn .i64 (k*n) n=k:=by
   rw[Int.mul_comm];exact qvF h0 (by omega)
  simp only[STD,qdD hm hn,yN,hz,h,h0,w1,w2,q6a k (by omega),q6a 0 (by omega)]
 ·rw[if_neg hc] at h
  have lm:=qpq hm
  have ln:=qpq hn
  obtain⟨q1,l1,r1,w1,n1,v1,z1⟩:=qkR (k*n) (by unfold okL at hm;omega)
  obtain⟨q2,l2,r2,w2,n2,v2,z2⟩:=qkR n (by unfold okL at hn;omega)
  have hq2:q2≤114:=qx4 w2 n2 (by omega)
  have hq0:q2≠0:=fun h=>by rw[qiP w2 n2] at h;omega
  obtain⟨nq,lq,nr,lr,d1,d2,d3,d4,d5,d6,d7⟩:=qf5 w1 w2 n2 hq0 (by omega) (decide (k*n<0)) (decide (n<0))
  have e1:((k*n).natAbs:Int)=(k.natAbs:Int)*(n.natAbs:Int):=by rw[Int.natAbs_mul];simp
  rw[v1,v2,e1] at d6
  rw[v2] at d7
  have b4:=d4.bd.1
  have hr0:mv lr=0∧mv lq=k.natAbs:=by
   have hn0:(0:Int)<(n.natAbs:Int):=by omega
   have e2:((k.natAbs:Int)-mv lq)*(n.natAbs:Int)=mv lr:=by rw[Int.sub_mul];omega
   rcases Int.lt_trichotomy ((k.natAbs:Int)-mv lq) 0 with a|a|a
   ·have:=Int.mul_neg_of_neg_of_pos a hn0;omega
   ·rw[a,Int.zero_mul] at e2;omega
   ·have:=Int.mul_le_mul_of_nonneg_right (show 1≤(k.natAbs:Int)-mv lq by omega) (show 0≤(n.natAbs:Int) by omega)
    omega
  have hnr:nr=0:=by rw[qiP d4 d5];exact hr0.1
  have hv:sv (!(Go.Eng.beq (decide (k*n<0)) (decide (n<0)))) lq=k:=by
   unfold sv
   rw[hr0.2]
   unfold Go.Eng.beq
   rcases Int.lt_trichotomy k 0 with a|a|a
   ·rcases Int.lt_trichotomy n 0 with b|b|b
    ·have:=Int.mul_pos_of_neg_of_neg a b
     have c:¬k*n<0:=by omega
     simp[b,c];omega
    ·exact absurd b h0
    ·have c:=Int.mul_neg_of_neg_of_pos a b
     have b':¬n<0:=by omega
     simp[b',c];omega
   ·subst a;simp
   ·rcases Int.lt_trichotomy n 0 with b|b|b
    ·have c:=Int.mul_neg_of_pos_of_neg a b
     simp[b,c];omega
    ·exact absurd b h0
    ·have:=Int.mul_pos a b
     have c:¬k*n<0:=by omega
     have b':¬n<0:=by omega
     simp[b',c];omega
  have hT:=quP d2 d3 (!(Go.Eng.beq (decide (k*n<0)) (decide (n<0))))
  rw[hv] at hT
  have hT2:=quP d4 d5 (decide (k*n<0))
  have hv0:sv (decide (k*n<0)) lr=0:=by unfold sv;rw[hr0.1];split<;>rfl
  rw[hv0] at hT2
  have hnr':¬(0:Int)<(nr:Int):=by omega
  simp only[STD,qdD hm hn,yN,hz,h,r1,r2,d1,hnr',hT,hT2]
theorem qAh{m n:Int}(h:m.natAbs≤n.natAbs)(hn:okL n):okL m:=Nat.le_trans (qcn h) hn
theorem qCN{k n:Int}(h0:n≠0)(hm:okL (k*n))(hn:okL n):(q62 [.s (tI (k*n)),.s (tI n)]).run=some (0,[.s (tI k),.i 0]):=by
 rw[qry]
 have hk:okL k:=qAh (by
  rw[Int.natAbs_mul]
  have:k.natAbs*1≤k.natAbs*n.natAbs:=Nat.mul_le_mul_left _ (by omega)
  omega) hm
 simp only[STD,qzy h0 hm hn,qdd hk]
theorem qyg(a b:Nat)(hb:b<9223372036854775808):(qj q1H [.i (a:Int),.i (b:Int)]).run=some (0,[.i ((Nat.gcd a b:Nat):Int)]):=by
 obtain⟨j,qs,h1,rfl,rfl⟩:=q8l (S:=q1H) (fun k ps=>∃x y:Nat,ps=[.i (x:Int),.i (y:Int)]∧y=k∧Nat.gcd x y=Nat.gcd a b)
  (fun j qs=>j=0∧qs=[.i ((Nat.gcd a b:Nat):Int)]) (n:=b) hb (fun k ps hk ⟨x,y,hps,hy,hg⟩=>by
  subst hps
  rw[qme]
  by_cases h0:y=0
  ·right
   refine⟨0,[.i (x:Int)],?_,rfl,?_⟩
   ·simp only[STD,h0];simp[]
   ·rw[←hg,h0,Nat.gcd_zero_right]
  ·left
   refine⟨x%y,[.i (y:Int),.i ((x%y:Nat):Int)],by rw[←hy];exact Nat.mod_lt _ (by omega),?_,y,x%y,rfl,rfl,?_⟩
   ·simp only[STD,show ¬((y:Int)=0) by omega,qzq]
   ·rw[←hg,Nat.gcd_comm y,←Nat.gcd_rec,Nat.gcd_comm]) (ps:=[.i (a:Int),.i (b:Int)]) ⟨a,b,rfl,rfl,rfl⟩
 exact h1
theorem qA7{n:Nat}{l:List Int}(h:WOK n l)(hn:n≤1):mv l=l.getD 0 0:=by
 have:=qa4 l 1 (by rw[h.len];omega)
 rw[vz h.dig h.z hn,Int.mul_zero,Int.add_zero] at this
 have hl:=h.len
 obtain⟨x,t,rfl⟩:∃x t,l=x::t:=by
  cases l with
  | nil=>simp at hl
  | cons x t=>exact⟨x,t,rfl⟩
 rw[this];simp[mv]
theorem qBu{m n:Int}(hm:okL m)(hn:okL n):(q2h [.s (tI m),.s (tI n)]).run=some (0,[.s (tN (Nat.gcd m.natAbs n.natAbs)),.i 0]):=by
 rw[qrR]
 have lm:=qpq hm
 have ln:=qpq hn
 obtain⟨q1,l1,r1,w1,n1,v1,_⟩:=qkR m (by unfold okL at hm;omega)
 obtain⟨q2,l2,r2,w2,n2,v2,_⟩:=qkR n (by unfold okL at hn;omega)
 have hm':(tN m.natAbs).length≤1024:=hm
 have hn':(tN n.natAbs).length≤1024:=hn
 obtain⟨j,qs,g1,g2⟩:=q8l (S:=q4Y) (fun k ps=>∃(x y:Nat) (b1 b2:Bool) (nx ny:Nat) (lx ly:List Int),ps=[.b b1,.i (nx:Int),.r (rI lx),.b b2,.i (ny:Int),.r (rI ly)] ∧
   WOK nx lx∧nrm nx lx∧WOK ny ly∧nrm ny ly∧mv lx=x∧mv ly=y∧eM x y=k∧Nat.gcd x y=Nat.gcd m.natAbs n.natAbs∧(x:Int)<pB 114∧(y:Int)<pB 114)
  (fun j qs=>(j=0∧∃(b:Bool) (n':Nat) (l:List Int),qs=[.b b,.i (n':Int),.r (rI l)]∧WOK n' l∧nrm n' l∧mv l=((Nat.gcd m.natAbs n.natAbs:Nat):Int))∨(j=1∧qs=[.s (tN (Nat.gcd m.natAbs n.natAbs)),.i 0])) (n:=eM m.natAbs n.natAbs) (qzP (by omega) (by omega))
  (fun k ps hk ⟨x,y,b1,b2,nx,ny,lx,ly,hps,hw,hnw,hw2,hn2,hx,hy,he,hg,lx1,ly1⟩=>by
  subst hps
  rw[qoz]
  have hxl:=hw.len
  have hyl:=hw2.len
  by_cases h0:ny=0
  ·right
   have hy0:mv ly=0:=by rw[←qiP hw2 hn2];exact h0
   have hy0':y=0:=by omega
   refine⟨0,[.b b1,.i (nx:Int),.r (rI lx)],?_,.inl ⟨rfl,b1,nx,lx,rfl,hw,hnw,?_⟩⟩
   ·simp only[STD,h0,show ¬(0:Int)<((0:Nat):Int) by omega]
   ·rw[hx,←hg,hy0',Nat.gcd_zero_right]
  ·have a0:(0:Int)<(ny:Int):=by omega
   have hy0:y≠0:=fun h=>h0 (by rw[qiP hw2 hn2];omega)
   by_cases hc:nx≤1∧ny≤1
   ·right
    have e1:=qA7 hw hc.1
    have e2:=qA7 hw2 hc.2
    have d1:cI (rI lx) 0 0=(x:Int):=by rw[show (0:Int)=((0:Nat):Int) from rfl,q4G,←e1,hx]
    have d2:cI (rI ly) 0 0=(y:Int):=by rw[show (0:Int)=((0:Nat):Int) from rfl,q4G,←e2,hy]
    have hy9:=hw2.get 0
    rw[←e2,hy] at hy9
    have hE:=qyg x y (by omega)
    have hgl:Nat.gcd x y≤y:=Nat.gcd_le_right _ (by omega)
    have hO:=q6a ((Nat.gcd x y:Nat):Int) (by omega)
    rw[qfz] at hO
    have c1:(nx:Int)≤1:=by omega
    have c2:(ny:Int)≤1:=by omega
    refine⟨1,[.s (tN (Nat.gcd x y)),.i 0],?_,.inr ⟨rfl,by rw[hg]⟩⟩
    simp only[STD,a0,c1,c2,d1,d2,hE,hO]
   ·left
    have hny:ny≤114:=qx4 hw2 hn2 (by omega)
    obtain⟨nq,lq,nr,lr,d1,d2,d3,d4,d5,d6,d7⟩:=qf5 hw hw2 hn2 h0 (by omega) b1 b2
    have hr:mv lr=((x%y:Nat):Int):=by
     have b4:=d4.bd.1
     rw[hx,hy] at d6
     rw[hy] at d7
     have hy1:(0:Int)<(y:Int):=by omega
     have:=(Int.ediv_emod_unique hy1 (a:=(x:Int)) (r:=mv lr) (q:=mv lq)).2 ⟨by rw[Int.mul_comm];omega,b4,d7⟩
     rw[←this.2];simp
    refine⟨eM y (x%y),[.b b2,.i (ny:Int),.r (rI ly),.b false,.i (nr:Int),.r (rI lr)],by rw[←he];exact qBh hy0,?_,y,x%y,b2,false,ny,nr,ly,lr,rfl,hw2,hn2,d4,d5,hy,hr,rfl,?_,ly1,?_⟩
    ·by_cases c1:nx≤1
     ·have c2:¬(ny:Int)≤1:=by omega
      have c1':(nx:Int)≤1:=by omega
      simp only[STD,a0,c1',c2,d1]
     ·have c1':¬(nx:Int)≤1:=by omega
      simp only[STD,a0,c1',d1]
    ·rw[←hg,Nat.gcd_comm y,←Nat.gcd_rec,Nat.gcd_comm]
    ·have:=Nat.mod_lt x (show 0<y by omega)
     omega) (ps:=[.b (decide (m<0)),.i (q1:Int),.r (rI l1),.b (decide (n<0)),.i (q2:Int),.r (rI l2)])
  ⟨m.natAbs,n.natAbs,_,_,q1,q2,l1,l2,rfl,w1,n1,w2,n2,v1,v2,rfl,rfl,lm,ln⟩
 rcases g2 with⟨rfl,b,n',l,rfl,a1,a2,a3⟩|⟨rfl,rfl⟩
 ·have hT:=quP a1 a2 false
  have hv:sv false l=((Nat.gcd m.natAbs n.natAbs:Nat):Int):=by unfold sv;rw[a3];rfl
  rw[hv,qfz] at hT
  simp only[STD,qdD hm hn,r1,r2,g1,qW g1,hT]
 ·simp only[STD,qdD hm hn,r1,r2,g1,qW g1,show ¬(1=0) by omega]
end Go.Eng

namespace Go.Eng
theorem q8C:okL 1:=by show nl 1≤1024;decide
theorem q88:okL 0:=by show nl 0≤1024;decide
theorem qCf(s:List UInt8)(hl:s.length≤1000000000):(q5s [.s s,.s [47]]).run=some (0,if sP s<s.length then [.s (s.take (sP s)),.s (s.drop (sP s+1)),.b true] else [.s s,.s [],.b false]):=by
 rw[qox]
 have h:(wy [.s s,.s [47]]).run=some (0,if sP s<s.length then [.s (s.take (sP s)),.s (s.drop (sP s+1)),.b true] else [.s s,.s [],.b false]):=by
  rw[q9B]
  have hI:=qAI s
  by_cases hc:sP s<s.length
  ·rw[if_pos hc] at hI ⊢
   have w:qk .i64 (sP s:Int) (wl [47])=((sP s+1:Nat):Int):=by
    show qk .i64 (sP s:Int) 1=_
    rw[wv (by omega)];omega
   have a1:(0:Int)≤(sP s:Int)∧(sP s:Int)≤wl s:=by unfold wl;omega
   have a2:(0:Int)≤0∧(0:Int)≤(sP s:Int):=by omega
   have a3:(0:Int)≤wl s∧wl s≤wl s:=by unfold wl;omega
   have a4:(0:Int)≤((sP s+1:Nat):Int)∧((sP s+1:Nat):Int)≤wl s:=by unfold wl;omega
   have e1:qjz s 0 (sP s:Int)=s.take (sP s):=by unfold qjz;simp
   have e2:qjz s ((sP s+1:Nat):Int) (wl s)=s.drop (sP s+1):=by unfold qjz wl;simp only[Int.toNat_natCast];rw[List.take_length]
   simp only[STD,hI,a1.1,a1.2,a2,a3,a4,and_self,w,e1,e2]
  ·rw[if_neg hc] at hI ⊢
   have a:¬(0:Int)≤-1:=by omega
   simp only[STD,hI,a]
 by_cases hc:sP s<s.length
 ·rw[if_pos hc] at h ⊢
  simp only[STD,h]
 ·rw[if_neg hc] at h ⊢
  simp only[STD,h]
theorem qCe(s:List UInt8)(hl:s.length≤1000000000):(qN [.s s]).run=some (0,[.s (spn s),.s (spd s),.b (decide (sP s<s.length))]):=by
 rw[qsO]
 have h:=qCf s hl
 unfold spn spd
 by_cases hc:sP s<s.length
 ·rw[if_pos hc] at h ⊢
  rw[decide_eq_true hc]
  simp only[STD,h]
 ·rw[if_neg hc] at h ⊢
  have:sP s=s.length:=by have:=qB7 s;omega
  rw[decide_eq_false hc,this,List.take_length]
  simp only[STD,h]
theorem qC3(q:Rat):(sP (tQ q)<(tQ q).length)=(q.den≠1):=by
 by_cases h:q.den=1
 ·rw[qak h,qtO (qo5 _)];simp[h]
 ·rw[q68 h,qxI (qo5 _)];simp[h]
def okQ(q:Rat):Prop:=qn q≤1024∧qd q≤1024
theorem q4A{q:Rat}(h:okQ q):okL q.num:=h.1
theorem q04{q:Rat}(h:okQ q):okL (q.den:Int):=h.2
theorem qnG{q:Rat}(h:okQ q):(tQ q).length≤3000:=by have:=qBV q;have:=h.1;have:=h.2;omega
theorem q9n{q:Rat}(h:okQ q):(qN [.s (tQ q)]).run=some (0,[.s (tI q.num),.s (tI (q.den:Int)),.b (decide (q.den≠1))]):=by
 have:=qnG h
 rw[qCe _ (by omega),qAb,qAm,qfz]
 simp only[qC3]
open Classical in
noncomputable def vI(s:List UInt8):Int:=if h:∃m:Int,s=tI m then h.choose else 0
theorem qy7(m:Int):vI (tI m)=m:=by
 unfold vI
 have h:∃k:Int,tI m=tI k:=⟨m,rfl⟩
 rw[dif_pos h]
 exact(qvr h.choose_spec).symm
theorem qqH{s:List UInt8}(h:qvl s=0):∃m:Int,s=tI m∧okL m:=by
 unfold qvl at h
 split at h
 ·rename_i hm
  obtain⟨m,rfl⟩:=hm
  rw[qrL] at h
  split at h
  ·rename_i hl;exact⟨m,rfl,hl⟩
  ·omega
 ·omega
theorem qrp(s:List UInt8):qvl s=0∨qvl s=3∨qvl s=11:=by
 unfold qvl
 split
 ·split<;>simp
 ·simp
noncomputable def qoD(s:List UInt8):Int:=
 if qvl (spn s)=3 then 3 else if qvl (spd s)=3 then 3 else if qvl (spn s)≠0 then 11 else if qvl (spd s)≠0 then 11
 else if sP s<s.length then (if sgn (vI (spd s)-1)≤0 then 3 else if Nat.gcd (vI (spn s)).natAbs (vI (spd s)).natAbs=1 then 0 else 3) else 0
theorem qCd(s:List UInt8):(spn s).length≤s.length:=by unfold spn;rw[List.length_take];omega
theorem qC5(s:List UInt8):(spd s).length≤s.length+1:=by unfold spd;split<;>simp<;>omega
theorem q7M(s:List UInt8)(hl:s.length≤100000000):(vO [.s s]).run=some (0,[.i (qoD s)]):=by
 rw[qor]
 have hn:=qCd s
 have hd:=qC5 s
 have h1:=qdj (spn s) (by omega)
 have h2:=qdj (spd s) (by omega)
 have hc:=qCe s (by omega)
 have mx:qiz 11 0=11∧qiz 11 11=11∧qiz 0 11=11:=by decide
 unfold qoD
 rcases qrp (spn s) with a|a|a<;>rcases qrp (spd s) with b|b|b<;>rw[a] at h1 ⊢<;>rw[b] at h2 ⊢
 ·obtain⟨m,em,om⟩:=qqH a
  obtain⟨n,en,on⟩:=qqH b
  rw[em] at h1 hc ⊢
  rw[en] at h2 hc ⊢
  have hC:=qnb on (n:=1) q8C
  rw[qCi] at hC
  have hG:=qBu om on
  rw[qy7,qy7]
  by_cases hs:sP s<s.length
  ·by_cases ho:sgn (n-1)≤0
   ·simp only[STD,hc,h1,h2,hs,hC,hG,ho,show ¬((0:Int)=3) by omega,show ¬((0:Int)≠0) by omega]
   ·by_cases hg:Nat.gcd m.natAbs n.natAbs=1
    ·simp only[STD,hc,h1,h2,hs,hC,hG,ho,hg,yN,qfB,show ¬((0:Int)=3) by omega,show ¬((0:Int)≠0) by omega]
    ·simp only[STD,hc,h1,h2,hs,hC,hG,ho,hg,yN,qfB,show ¬((0:Int)=3) by omega,show ¬((0:Int)≠0) by omega]
  ·simp only[STD,hc,h1,h2,hs,show ¬((0:Int)=3) by omega,show ¬((0:Int)≠0) by omega]
 all_goals simp only[STD,hc,h1,h2,mx,show ¬((0:Int)=3) by omega,show ¬((11:Int)=3) by omega,show ¬((11:Int)=0) by omega,show ¬((3:Int)=0) by omega]
theorem qqc{q:Rat}(h:okQ q):qoD (tQ q)=0:=by
 unfold qoD
 have e1:spd (tQ q)=tI (q.den:Int):=by rw[qAm,qfz]
 rw[qAb,e1,qtu (q4A h),qtu (q04 h)]
 simp only[qy7,qC3]
 by_cases hd:q.den=1
 ·simp[hd]
 ·have:=q.den_nz
  have hs:¬sgn ((q.den:Int)-1)≤0:=by
   unfold sgn;rw[if_neg (by omega),if_neg (by omega)];omega
  have hr:Nat.gcd q.num.natAbs q.den=1:=q.reduced
  simp[hd,hs,hr]
theorem qAA{s:List UInt8}(h:qoD s=0):∃q:Rat,s=tQ q∧okQ q:=by
 unfold qoD at h
 split at h
 ·omega
 split at h
 ·omega
 split at h
 ·omega
 split at h
 ·omega
 rename_i h1 h2 h3 h4
 obtain⟨m,em,om⟩:=qqH (Decidable.byContradiction fun h=>h3 h)
 obtain⟨n,en,on⟩:=qqH (Decidable.byContradiction fun h=>h4 h)
 rw[em,en,qy7,qy7] at h
 split at h
 ·rename_i hs
  split at h
  ·omega
  rename_i hsg
  split at h
  ·rename_i hg
   have hn1:1<n:=by
    unfold sgn at hsg
    by_cases c1:n-1<0
    ·rw[if_pos c1] at hsg;omega
    ·rw[if_neg c1] at hsg
     by_cases c2:n-1=0
     ·rw[if_pos c2] at hsg;omega
     ·omega
   obtain⟨k,rfl⟩:∃k:Nat,n=(k:Int):=⟨n.toNat,by omega⟩
   refine⟨⟨m,k,by omega,hg⟩,?_,om,on⟩
   rw[q68 (show k≠1 by omega)]
   have hslash:s=spn s++47::spd s:=by
    unfold spn spd
    rw[if_pos hs]
    have h47:s[sP s]=47:=by
     have:=List.findIdx_getElem (p:=(·==47)) (w:=hs)
     exact eq_of_beq this
    rw[←h47,List.getElem_cons_drop,List.take_append_drop]
   rw[hslash,em,en,qfz]
  ·omega
 ·rename_i hs
  have e:sP s=s.length:=by have:=qB7 s;omega
  have hsn:spn s=s:=by unfold spn;rw[e,List.take_length]
  refine⟨(m:Rat),?_,?_,?_⟩
  ·rw[qxy,←em,hsn]
  ·have:nl m≤1024:=om
   unfold qn;simpa using this
  ·unfold qd;simp;decide
theorem qCw(m:Int):nl m≤(tI m).length:=by unfold nl tI;split<;>simp
theorem qnj(q:Rat):qn q≤(tQ q).length∧(q.den=1∨qn q+1+qd q≤(tQ q).length):=by
 have h1:=qCw q.num
 by_cases h:q.den=1
 ·rw[qak h];exact⟨h1,.inl h⟩
 ·rw[q68 h]
  unfold qn qd dl
  simp
  omega
theorem qsP{l:List (List UInt8)}(hn:l.length<1000000)(h:∀s,s∈l→(vO [.s s]).run=some (0,[.i 0])):(qV [.r (rS l)]).run=some (0,[.i 0]):=by
 rw[qms,qoV]
 have key:=wc (S:=q1A) (fun i=>[.r (rS l),.i (l.length:Int),.i (i:Int)]) (0,[]) l.length (by omega) (fun i hi=>by
  rw[qbA,qyN hi]
  have a1:(i:Int)<(l.length:Int):=by omega
  have a2:(i:Int)<qf (rS l):=by rw[qoV];exact a1
  simp only[STD,a1,a2,jT,and_self,h _ (List.getElem_mem hi),q1o hi (show l.length<9223372036854775808 by omega)]) (by
  rw[qbA]
  have a1:¬(l.length:Int)<(l.length:Int):=by omega
  simp only[STD,a1])
 simp only[show (((0:Nat)):Int)=0 from rfl] at key
 simp only[STD,key,qW key]
theorem qfO{q:Rat}(h:okQ q):(vO [.s (tQ q)]).run=some (0,[.i 0]):=by
 have:=qnG h
 rw[q7M _ (by omega),qqc h]
theorem qf1{a b:Rat}(ha:okQ a)(hb:okQ b):(qV [.r [[.s (tQ a)],[.s (tQ b)]]]).run=some (0,[.i 0]):=by
 exact qsP (l:=[tQ a,tQ b]) (by simp) (fun s hs=>by
  simp only[List.mem_cons,List.not_mem_nil,or_false] at hs
  rcases hs with rfl|rfl
  ·exact qfO ha
  ·exact qfO hb)
theorem qAS{m n:Int}(hm:okL m)(hn:okL n)(h:okL (m+n)):(yi [.s (tI m),.s (tI n),.i 0]).run=some (0,[.s (tI (m+n)),.i 0]):=by
 rw[qk6]
 have:(wQ [.s (tI m),.s (tI n),.i 0]).run=some (0,[.s (tI (m+n)),.i 0]):=by
  rw[q9K]
  simp only[STD,qC7 hm hn h]
 simp only[STD,this]
theorem qtM{m n:Int}(hm:okL m)(hn:okL n)(h:okL (m-n)):(zr [.s (tI m),.s (tI n),.i 0]).run=some (0,[.s (tI (m-n)),.i 0]):=by
 rw[qkt]
 have:(wN [.s (tI m),.s (tI n),.i 0]).run=some (0,[.s (tI (m-n)),.i 0]):=by
  rw[q9F]
  simp only[STD,qCF hm hn h]
 simp only[STD,this]
theorem qAp{m n:Int}(hm:okL m)(hn:okL n)(h:okL (m*n)):(zR [.s (tI m),.s (tI n),.i 0]).run=some (0,[.s (tI (m*n)),.i 0]):=by
 rw[q9N]
 simp only[STD,qCu hm hn h]
theorem qAT{m n:Int}(hm:okL m)(hn:okL n):(wK [.s (tI m),.s (tI n),.i 0]).run=some (0,[.s (tN (Nat.gcd m.natAbs n.natAbs)),.i 0]):=by
 rw[q9M]
 simp only[STD,qBu hm hn]
theorem qqf{k n:Int}(h0:n≠0)(hm:okL (k*n))(hn:okL n):(qU [.s (tI (k*n)),.s (tI n),.i 0]).run=some (0,[.s (tI k),.i 0]):=by
 rw[q9P]
 simp only[STD,qCN h0 hm hn]
def prd:Int→List Int→Int
 | a,[]=>a
 | a,m::l=>prd (a*m) l
def qAo:Int→List Int→Prop
 | a,[]=>okL a
 | a,m::l=>okL a∧okL m∧qAo (a*m) l
theorem qy6:∀(l:List Int) (pre:List Int) (a:Int),qAo a l→pre.length+l.length<1000→∀f,l.length<f →
  (qi9 jZ f [.s (tI a),.r (rS ((pre++l).map tI)),.i ((pre++l).length:Int),.i (pre.length:Int),.i 0]).run=some (0,[.s (tI (prd a l)),.i 0])
 | [],pre,a,h,hl,f,hf=>by
  obtain⟨f,rfl⟩:∃g,f=g+1:=⟨f-1,by simp at hf;omega⟩
  refine q6P ?_
  rw[q8Q,List.append_nil]
  have a1:¬(pre.length:Int)<(pre.length:Int):=by omega
  simp only[STD,a1];rfl
 | m::l,pre,a,h,hl,f,hf=>by
  obtain⟨f,rfl⟩:∃g,f=g+1:=⟨f-1,by simp at hf;omega⟩
  obtain⟨h1,h2,h3⟩:=h
  have hlt:pre.length<(pre++m::l).length:=by simp
  have ih:=qy6 l (pre++[m]) (a*m) h3 (by simp at hl ⊢;omega) f (by simp at hf;omega)
  rw[List.append_assoc,List.singleton_append] at ih
  have hok:okL (a*m):=by
   cases l with
   | nil=>exact h3
   | cons x l=>exact h3.1
  rw[qfK (qs:=[.s (tI (a*m)),.r (rS ((pre++m::l).map tI)),.i ((pre++m::l).length:Int),.i ((pre++[m]).length:Int),.i 0])]
  ·exact ih
  ·rw[q8Q]
   have hlt2:pre.length<((pre++m::l).map tI).length:=by simp
   rw[qyN hlt2]
   have e:((pre++m::l).map tI)[pre.length]=tI m:=by simp
   rw[e]
   have a1:(pre.length:Int)<((pre++m::l).length:Int):=by omega
   have a2:(pre.length:Int)<qf (rS ((pre++m::l).map tI)):=by rw[qoV];omega
   have w:qk .i64 (pre.length:Int) 1=((pre++[m]).length:Int):=by
    rw[wv (by omega)];simp
   simp only[STD,a1,a2,jT,and_self,qAp h1 h2 hok,w]
theorem qr9(l:List Int)(h:qAo 1 l)(hl:l.length<1000):(qg [.r (rS (l.map tI)),.i 0]).run=some (0,[.s (tI (prd 1 l)),.i 0]):=by
 rw[qk2,qoV]
 have h1:=qy6 l [] 1 h (by simp;omega) qfp (by unfold qfp;omega)
 simp only[List.nil_append,List.length_nil] at h1
 have e:(qj jZ [.s [49],.r (rS (l.map tI)),.i ((l.map tI).length:Int),.i 0,.i 0]).run=some (0,[.s (tI (prd 1 l)),.i 0]):=by
  rw[List.length_map]
  exact h1
 simp only[STD,e]
theorem qbM{m n:Int}(hm:okL m)(hn:okL n)(h:okL (m*n)):(qg [.r [[.s (tI m)],[.s (tI n)]],.i 0]).run=some (0,[.s (tI (m*n)),.i 0]):=by
 have:=qr9 [m,n] ⟨q8C,hm,by rw[Int.one_mul];exact hm,hn,by rw[Int.one_mul];exact h⟩ (by simp)
 simp only[prd,Int.one_mul] at this
 exact this
theorem qrZ{q:Rat}(h:okQ q):(q1F [.s (tI q.num),.s (tI (q.den:Int))]).run=some (0,[.s (tQ q)]):=by
 rw[qmt,qfz]
 have l1:=qud (q4A h)
 have l2:(tN q.den).length≤1024:=h.2
 have a1:wl (tI q.num)+wl [47]≤140737488355328:=by unfold wl;simp;omega
 have a2:wl (qs6 (tI q.num) [47])+wl (tN q.den)≤140737488355328:=by unfold wl qs6;simp;omega
 by_cases h1:q.den=1
 ·simp only[STD,yN,qfB,h1,qak h1]
 ·simp only[STD,yN,qfB,h1,q68 h1,a1,a2]
  simp[qs6]
theorem qz4(s:List UInt8):(um [.s s,.s [45]]).run=some (0,[.b (decide (s.getD 0 0=45))]):=by
 rw[qgl]
 simp only[STD,qxe]
theorem qyc(n:Int):((tI n).getD 0 0=45)=(n<0):=by
 by_cases h:n<0
 ·rw[qdN h];simp[h]
 ·rw[qjr h]
  obtain⟨c,t,e,h1,h2⟩:=qfM (yT n.natAbs) (qnp _)
  rw[e]
  simp only[List.getD_cons_zero,h,eq_iff_iff,iff_false]
  intro hc;subst hc;revert h1;decide
theorem qjl{m n:Int}(hn0:n≠0)(hm:okL m)(hn:okL n):(qA [.s (tI m),.s (tI n),.i 0]).run=some (0,[.s (tQ (Rat.divInt m n)),.i 0])∧okQ (Rat.divInt m n):=by
 have hG:=qAT hm hn
 have hg0:0<Nat.gcd m.natAbs n.natAbs:=Nat.gcd_pos_of_pos_right _ (by omega)
 have hgn:Nat.gcd m.natAbs n.natAbs≤n.natAbs:=Nat.gcd_le_right _ (by omega)
 have hnum:=Rat.num_divInt m n
 have hden:=Rat.den_divInt m n
 rw[if_neg hn0] at hden
 have hgc:Int.gcd n m=Nat.gcd m.natAbs n.natAbs:=by unfold Int.gcd;exact Nat.gcd_comm _ _
 rw[hgc] at hnum hden
 obtain⟨k,hk⟩:((Nat.gcd m.natAbs n.natAbs:Nat):Int) ∣ m:=Int.ofNat_dvd_left.2 (Nat.gcd_dvd_left _ _)
 obtain⟨l,hl⟩:((Nat.gcd m.natAbs n.natAbs:Nat):Int) ∣ n:=Int.ofNat_dvd_left.2 (Nat.gcd_dvd_right _ _)
 generalize Nat.gcd m.natAbs n.natAbs=g at *
 generalize Rat.divInt m n=q at *
 have hgok:okL (g:Int):=qAh (by simpa using hgn) hn
 have hm2:k*(g:Int)=m:=by rw[Int.mul_comm];exact hk.symm
 have hn2:l*(g:Int)=n:=by rw[Int.mul_comm];exact hl.symm
 have hgz:(g:Int)≠0:=by omega
 have hok:okQ q:=by
  constructor
  ·refine Nat.le_trans (qer ?_) hm
   rw[hnum]
   refine Nat.le_trans (Int.natAbs_ediv_le_natAbs _ _) ?_
   rw[Int.natAbs_mul,Int.natAbs_sign_of_ne_zero hn0];omega
  ·refine Nat.le_trans (qcn ?_) hn
   rw[hden];exact Nat.div_le_self _ _
 refine⟨?_,hok⟩
 rw[qga]
 have hP:=qz4 (tI n)
 simp only[qyc] at hP
 by_cases hneg:n<0
 ·have e1:-k=q.num:=by
   rw[hnum,Int.sign_eq_neg_one_of_neg hneg,←hm2]
   rw[show (-1:Int)*(k*(g:Int))=(-k)*(g:Int) by rw[Int.neg_mul,Int.one_mul,Int.neg_mul]]
   exact(Int.mul_ediv_cancel _ hgz).symm
  have e2:-l=(q.den:Int):=by
   rw[hden]
   have h3:(n.natAbs:Int)=(-l)*(g:Int):=by rw[Int.neg_mul];omega
   rw[Int.natCast_ediv,h3,Int.mul_ediv_cancel _ hgz]
  have hS:=qtM (m:=0) (n:=(g:Int)) q88 hgok (by rw[Int.zero_sub];exact qpZ hgok)
  rw[Int.zero_sub,qfz] at hS
  have Q1:=qqf (k:=-k) (n:=-(g:Int)) (by omega) (by rw[Int.neg_mul_neg,hm2];exact hm) (qpZ hgok)
  have Q2:=qqf (k:=-l) (n:=-(g:Int)) (by omega) (by rw[Int.neg_mul_neg,hn2];exact hn) (qpZ hgok)
  rw[Int.neg_mul_neg,hm2,e1] at Q1
  rw[Int.neg_mul_neg,hn2,e2] at Q2
  have hS':(zr [.s [48],.s (tN g),.i 0]).run=some (0,[.s (tI (-(g:Int))),.i 0]):=hS
  simp only[STD,hG,hP,hneg,hS',Q1,Q2,qrZ hok]
 ·have e1:k=q.num:=by
   rw[hnum,Int.sign_eq_one_of_pos (by omega),Int.one_mul,←hm2]
   exact(Int.mul_ediv_cancel _ hgz).symm
  have e2:l=(q.den:Int):=by
   rw[hden]
   have h3:(n.natAbs:Int)=l*(g:Int):=by omega
   rw[Int.natCast_ediv,h3,Int.mul_ediv_cancel _ hgz]
  have Q1:=qqf (k:=k) (n:=(g:Int)) hgz (by rw[hm2];exact hm) hgok
  have Q2:=qqf (k:=l) (n:=(g:Int)) hgz (by rw[hn2];exact hn) hgok
  rw[hm2,e1,qfz] at Q1
  rw[hn2,e2,qfz] at Q2
  simp only[STD,hG,hP,hneg,Q1,Q2,qrZ hok]
end Go.Eng

namespace Go.Eng
theorem qvO(a b:Rat):Rat.divInt (a.num*b.den+b.num*a.den) ((a.den:Int)*(b.den:Int))=a+b:=by
 rw[Rat.add_def',←Rat.divInt_ofNat];simp
theorem qwt(a b:Rat):Rat.divInt (a.num*b.den-b.num*a.den) ((a.den:Int)*(b.den:Int))=a-b:=by
 rw[Rat.sub_def',←Rat.divInt_ofNat];simp
theorem qvT(a b:Rat):Rat.divInt (a.num*b.num) ((a.den:Int)*(b.den:Int))=a*b:=by
 rw[Rat.mul_def',←Rat.divInt_ofNat];simp
theorem qw3(a b:Rat):Rat.divInt (a.num*b.den) ((a.den:Int)*b.num)=a/b:=by
 rw[Rat.div_def,Rat.inv_def,←Rat.divInt_mul_divInt,Rat.num_divInt_den]
theorem qky(a b:Rat):(a.den:Int)*(b.den:Int)≠0:=by have:=Int.mul_pos (qz0 a) (qz0 b);omega
theorem qCo{m:Int}(h:m≠0):¬tI m=[48]:=by rw[q5Y];exact h
def bnd(N D:Nat)(q:Rat):Prop:=qn q≤N∧qd q≤D
theorem bnd.ok{N D:Nat}{q:Rat}(h:bnd N D q)(hN:N≤1024)(hD:D≤1024):okQ q:=⟨Nat.le_trans h.1 hN,Nat.le_trans h.2 hD⟩
theorem bnd.mono{N D N' D':Nat}{q:Rat}(h:bnd N D q)(hN:N≤N')(hD:D≤D'):bnd N' D' q:=⟨Nat.le_trans h.1 hN,Nat.le_trans h.2 hD⟩
theorem bnd.mul{N D N' D':Nat}{a b:Rat}(ha:bnd N D a)(hb:bnd N' D' b):bnd (N+N') (D+D') (a*b):=
 ⟨Nat.le_trans (qA5 a b) (Nat.add_le_add ha.1 hb.1),Nat.le_trans (qzW a b) (Nat.add_le_add ha.2 hb.2)⟩
theorem bnd.add{N D N' D' K:Nat}{a b:Rat}(ha:bnd N D a)(hb:bnd N' D' b)(h1:N+D'+1≤K)(h2:N'+D+1≤K):bnd K (D+D') (a+b):=
 ⟨by have:=qBG a b;have:=ha.1;have:=ha.2;have:=hb.1;have:=hb.2;omega,by have:=qBJ a b;have:=ha.2;have:=hb.2;omega⟩
theorem bnd.sub{N D N' D' K:Nat}{a b:Rat}(ha:bnd N D a)(hb:bnd N' D' b)(h1:N+D'+1≤K)(h2:N'+D+1≤K):bnd K (D+D') (a-b):=
 ⟨by have:=qC1 a b;have:=ha.1;have:=ha.2;have:=hb.1;have:=hb.2;omega,by have:=qBo a b;have:=ha.2;have:=hb.2;omega⟩
theorem bnd.div{N D N' D':Nat}{a b:Rat}(h0:b≠0)(ha:bnd N D a)(hb:bnd N' D' b):bnd (N+D') (D+N') (a/b):=
 ⟨by have:=qBC a h0;have:=ha.1;have:=hb.2;omega,by have:=qBO a h0;have:=ha.2;have:=hb.1;omega⟩
theorem bnd.neg{N D:Nat}{a:Rat}(h:bnd N D a):bnd N D (-a):=⟨by rw[qCc];exact h.1,h.2⟩
theorem qaf:bnd 1 1 0:=⟨by decide,by decide⟩
theorem qpL:bnd 1 1 2:=⟨by decide,by decide⟩
theorem qb3{m n:Int}{N M:Nat}(hm:nl m≤N)(hn:nl n≤M)(h:N+M≤1024):okL (m*n):=by
 have:=q4L m n
 unfold okL;omega
theorem qn0{N D N' D':Nat}{a b:Rat}(ha:bnd N D a)(hb:bnd N' D' b)(h1:N+N'≤1024)(h2:D+D'≤1024):(q1c [.s (tQ a),.s (tQ b)]).run=some (0,[.s (tQ (a*b)),.i 0]):=by
 have oa:=ha.ok (by omega) (by omega)
 have ob:=hb.ok (by omega) (by omega)
 have k1:okL (a.num*b.num):=qb3 ha.1 hb.1 h1
 have k2:okL ((a.den:Int)*(b.den:Int)):=qb3 ha.2 hb.2 h2
 have m1:=qbM (q4A oa) (q4A ob) k1
 have m2:=qbM (q04 oa) (q04 ob) k2
 have hL:=(qjl (qky a b) k1 k2).1
 rw[qvT] at hL
 rw[qsI]
 have key:(vq [.s (tQ a),.s (tQ b)]).run=some (0,[.s (tQ (a*b)),.i 0]):=by
  rw[qbh]
  have h1:(q2R [.s (tI a.num),.s (tI (a.den:Int)),.s (tI b.num),.s (tI (b.den:Int)),.i 0]).run=some (0,[.s (tI (a.num*b.num)),.s (tI ((a.den:Int)*(b.den:Int))),.i 0]):=by
   rw[qo8]
   simp only[STD,m1,m2]
  simp only[STD,qf1 oa ob,q9n oa,q9n ob,h1,yN,qCo (qky a b),hL]
 simp only[STD,key]
theorem quk{N D N' D':Nat}{a b:Rat}(ha:bnd N D a)(hb:bnd N' D' b)(h1:N+D'≤1023)(h2:N'+D≤1023)(h3:D+D'≤1024):(q6d [.s (tQ a),.s (tQ b)]).run=some (0,[.s (tQ (a+b)),.i 0]):=by
 have p1:=qnP a
 have p2:=qnP b
 have p3:=quA a
 have p4:=quA b
 have oa:okQ a:=⟨by have:=ha.1;have:=hb.2;omega,by have:=ha.2;have:=hb.2;omega⟩
 have ob:okQ b:=⟨by have:=hb.1;have:=ha.2;omega,by have:=ha.2;have:=hb.2;omega⟩
 have k1:okL (a.num*(b.den:Int)):=qb3 ha.1 hb.2 (by omega)
 have k2:okL (b.num*(a.den:Int)):=qb3 hb.1 ha.2 (by omega)
 have k3:okL ((a.den:Int)*(b.den:Int)):=qb3 ha.2 hb.2 h3
 have k4:okL (a.num*(b.den:Int)+b.num*(a.den:Int)):=by
  have q1:=quG (a.num*(b.den:Int)) (b.num*(a.den:Int))
  have q2:=q4L a.num (b.den:Int)
  have q3:=q4L b.num (a.den:Int)
  have q4:nl a.num≤N:=ha.1
  have q5:nl (b.den:Int)≤D':=hb.2
  have q6:nl b.num≤N':=hb.1
  have q7:nl (a.den:Int)≤D:=ha.2
  unfold okL;omega
 have m1:=qbM (q4A oa) (q04 ob) k1
 have m2:=qbM (q4A ob) (q04 oa) k2
 have m3:=qbM (q04 oa) (q04 ob) k3
 have hL:=(qjl (qky a b) k4 k3).1
 rw[qvO] at hL
 rw[qrj]
 have key:(vj [.s (tQ a),.s (tQ b)]).run=some (0,[.s (tQ (a+b)),.i 0]):=by
  rw[qbp]
  have h1:(q2T [.s (tI a.num),.s (tI (a.den:Int)),.s (tI b.num),.s (tI (b.den:Int)),.i 0]).run=some (0,[.s (tI (a.num*b.den+b.num*a.den)),.s (tI ((a.den:Int)*(b.den:Int))),.i 0]):=by
   rw[qoB]
   simp only[STD,m1,m2,m3,qAS k1 k2 k4]
  simp only[STD,qf1 oa ob,q9n oa,q9n ob,h1,yN,qCo (qky a b),hL]
 simp only[STD,key]
theorem qtf{N D N' D':Nat}{a b:Rat}(ha:bnd N D a)(hb:bnd N' D' b)(h1:N+D'≤1023)(h2:N'+D≤1023)(h3:D+D'≤1024):(q6l [.s (tQ a),.s (tQ b)]).run=some (0,[.s (tQ (a-b)),.i 0]):=by
 have p1:=qnP a
 have p2:=qnP b
 have p3:=quA a
 have p4:=quA b
 have oa:okQ a:=⟨by have:=ha.1;have:=hb.2;omega,by have:=ha.2;have:=hb.2;omega⟩
 have ob:okQ b:=⟨by have:=hb.1;have:=ha.2;omega,by have:=ha.2;have:=hb.2;omega⟩
 have k1:okL (a.num*(b.den:Int)):=qb3 ha.1 hb.2 (by omega)
 have k2:okL (b.num*(a.den:Int)):=qb3 hb.1 ha.2 (by omega)
 have k3:okL ((a.den:Int)*(b.den:Int)):=qb3 ha.2 hb.2 h3
 have k4:okL (a.num*(b.den:Int)-b.num*(a.den:Int)):=by
  have q1:=qy0 (a.num*(b.den:Int)) (b.num*(a.den:Int))
  have q2:=q4L a.num (b.den:Int)
  have q3:=q4L b.num (a.den:Int)
  have q4:nl a.num≤N:=ha.1
  have q5:nl (b.den:Int)≤D':=hb.2
  have q6:nl b.num≤N':=hb.1
  have q7:nl (a.den:Int)≤D:=ha.2
  unfold okL;omega
 have m1:=qbM (q4A oa) (q04 ob) k1
 have m2:=qbM (q4A ob) (q04 oa) k2
 have m3:=qbM (q04 oa) (q04 ob) k3
 have hL:=(qjl (qky a b) k4 k3).1
 rw[qwt] at hL
 rw[qs9]
 have key:(vd [.s (tQ a),.s (tQ b)]).run=some (0,[.s (tQ (a-b)),.i 0]):=by
  rw[qaQ]
  have h1:(q3e [.s (tI a.num),.s (tI (a.den:Int)),.s (tI b.num),.s (tI (b.den:Int)),.i 0]).run=some (0,[.s (tI (a.num*b.den-b.num*a.den)),.s (tI ((a.den:Int)*(b.den:Int))),.i 0]):=by
   rw[qoF]
   simp only[STD,m1,m2,m3,qtM k1 k2 k4]
  simp only[STD,qf1 oa ob,q9n oa,q9n ob,h1,yN,qCo (qky a b),hL]
 simp only[STD,key]
theorem qmF(q:Rat):(tQ q=[48])=(q=0):=by
 have:([48]:List UInt8)=tQ 0:=rfl
 rw[this,qwb]
theorem qtw{N D N' D':Nat}{a b:Rat}(hb0:b≠0)(ha:bnd N D a)(hb:bnd N' D' b)(h1:N+D'≤1024)(h2:D+N'≤1024):(q5L [.s (tQ a),.s (tQ b)]).run=some (0,[.s (tQ (a/b)),.i 0]):=by
 have oa:okQ a:=⟨by have:=ha.1;omega,by have:=ha.2;omega⟩
 have ob:okQ b:=⟨by have:=hb.1;omega,by have:=hb.2;omega⟩
 have k1:okL (a.num*(b.den:Int)):=qb3 ha.1 hb.2 h1
 have k2:okL ((a.den:Int)*b.num):=qb3 ha.2 hb.1 h2
 have hbn:b.num≠0:=fun h=>hb0 (Rat.num_eq_zero.1 h)
 have hz:(a.den:Int)*b.num≠0:=by have:=qz0 a;exact Int.mul_ne_zero (by omega) hbn
 have m1:=qbM (q4A oa) (q04 ob) k1
 have m2:=qbM (q04 oa) (q4A ob) k2
 have hL:=(qjl hz k1 k2).1
 rw[qw3] at hL
 rw[qsx]
 have key:(vn [.s (tQ a),.s (tQ b)]).run=some (0,[.s (tQ (a/b)),.i 0]):=by
  rw[qb1]
  have h1:(q37 [.s (tI a.num),.s (tI (a.den:Int)),.s (tI b.num),.s (tI (b.den:Int)),.i 0]).run=some (0,[.s (tI (a.num*b.den)),.s (tI ((a.den:Int)*b.num)),.i 0]):=by
   rw[qoI]
   simp only[STD,m1,m2]
  simp only[STD,qf1 oa ob,q9n oa,q9n ob,h1,yN,qCo hz,hL]
 simp only[STD,qf1 oa ob,yN,qmF,hb0,key]
theorem q7p{m:Int}(h:okL m):(zu [.s (tI m),.i 0]).run=some (0,[.i (sgn m),.i 0]):=by
 rw[qiS]
 simp only[STD,qrG h]
theorem qBg(m:Int):sgn m=sgq (m:Rat):=by unfold sgq;simp
theorem qsV{q k:Rat}(hk:0<k):sgq (k*q)=sgq q:=by
 rcases qbI q with⟨h,e⟩|⟨h,e⟩|⟨h,e⟩
 ·rw[e,qAk]
  have:=(Rat.mul_neg_iff_of_pos_left hk).2 h
  exact this
 ·rw[e,h,Rat.mul_zero];rfl
 ·rw[e,qur]
  exact Rat.mul_pos hk h
theorem q30(a:Rat):(0:Rat)<(a.den:Rat):=by
 have:=a.den_nz
 exact Rat.natCast_pos.2 (by omega)
theorem qdt(a:Rat):(a.num:Rat)=a*(a.den:Rat):=by
 have h:a=(a.num:Rat)/(a.den:Rat):=by rw[←Rat.mkRat_eq_div,Rat.mkRat_self]
 have h2:=Rat.div_mul_cancel (a:=(a.num:Rat)) (b:=(a.den:Rat)) (by have:=q30 a;grind)
 rw[←h] at h2
 exact h2.symm
def rX(a b c:Rat):Int:=a.num*b.den*c.den
def rY(a b:Rat):Int:=b.num*a.den
def rR(c:Rat):Int:=c.num*c.den
theorem qBI(a b c:Rat):sgn (rX a b c)=sgq a:=by
 unfold rX sgq
 rw[qcB (qz0 c),qcB (qz0 b)]
theorem qBA(a b:Rat):sgn (rY a b)=sgq b:=by unfold rY sgq;rw[qcB (qz0 a)]
theorem qBq(c:Rat):sgn (rR c)=sgq c:=by unfold rR sgq;rw[qcB (qz0 c)]
theorem qCb(a b c:Rat):sgn (rX a b c*rX a b c-rY a b*rY a b*rR c)=sgq (a*a-b*b*c):=by
 rw[qBg]
 have h1:=q30 a
 have h2:=q30 b
 have h3:=q30 c
 have hk:(0:Rat)<((a.den:Rat)*b.den*c.den)*((a.den:Rat)*b.den*c.den):=by
  have:=Rat.mul_pos (Rat.mul_pos h1 h2) h3
  exact Rat.mul_pos this this
 rw[←qsV (q:=a*a-b*b*c) hk]
 congr 1
 unfold rX rY rR
 simp only[Rat.intCast_sub,Rat.intCast_mul,qdt,Rat.intCast_natCast]
 grind
theorem qx5(a b c:Rat):qgh a b c=if 0≤sgn (rX a b c)*(sgn (rY a b)*sgn (rR c)) then (if sgn (rX a b c)=0 then sgn (rY a b)*sgn (rR c) else sgn (rX a b c)) else sgn (rX a b c)*sgn (rX a b c*rX a b c-rY a b*rY a b*rR c):=by
 unfold qgh
 rw[qBI,qBA,qBq,qCb]
theorem qBe{x y r:Int}(hx:okL x)(hy:okL y)(hr:okL r)(hxx:okL (x*x))(hyy:okL (y*y))(hyr:okL (y*y*r))(hd:okL (x*x-y*y*r)) :
  (ud [.s (tI x),.s (tI y),.s (tI r),.i 0]).run=some (0,[.i (if 0≤sgn x*(sgn y*sgn r) then (if sgn x=0 then sgn y*sgn r else sgn x) else sgn x*sgn (x*x-y*y*r)),.i 0]):=by
 rw[qik]
 have bx:=qnB x
 have bY:=qnB y
 have br:=qnB r
 have bd:=qnB (x*x-y*y*r)
 have m1:=qbM hx hx hxx
 have m2:=qr9 [y,y,r] ⟨q8C,hy,by rw[Int.one_mul];exact hy,hy,by rw[Int.one_mul];exact hyy,hr,by rw[Int.one_mul];exact hyr⟩ (by simp)
 simp only[prd,Int.one_mul] at m2
 have m2':(qg [.r [[.s (tI y)],[.s (tI y)],[.s (tI r)]],.i 0]).run=some (0,[.s (tI (y*y*r)),.i 0]):=m2
 by_cases hc:0≤sgn x*(sgn y*sgn r)
 ·by_cases h0:sgn x=0
  ·have w0:jF .i64 0 (sgn y*sgn r)=0:=by rw[yP (by rw[Int.zero_mul];omega),Int.zero_mul]
   simp only[STD,q7p hx,q7p hy,q7p hr,qkf bY br,h0,w0,Int.zero_mul,Int.le_refl,eq_self]
  ·simp only[STD,q7p hx,q7p hy,q7p hr,qkf bY br,qkf bx (qCJ bY br),hc,h0]
 ·simp only[STD,q7p hx,q7p hy,q7p hr,qkf bY br,qkf bx (qCJ bY br),hc,m1,m2',qtM hxx hyr hd,q7p hd,qkf bx bd]
theorem qv6(m:Int):okL (0*m):=by rw[Int.zero_mul];exact q88
theorem qAU{c:Rat}(h:0≤c):¬(tQ c).getD 0 0=45:=by
 have hn:¬c.num<0:=by have:=Rat.num_nonneg.2 h;omega
 have e:(tQ c).getD 0 0=(tI c.num).getD 0 0:=by
  by_cases hd:c.den=1
  ·rw[qak hd]
  ·rw[q68 hd]
   obtain⟨x,t,ex⟩:∃x t,tI c.num=x::t:=List.exists_cons_of_ne_nil (List.length_pos_iff.1 (qs3 _))
   rw[ex];simp
 rw[e,qyc];exact hn
theorem qC2{c:Rat}(h:c<0):(tQ c).getD 0 0=45:=by
 have h1:¬0≤c:=by grind
 have hn:c.num<0:=by
  have h2:¬0≤c.num:=fun h=>h1 (Rat.num_nonneg.1 h)
  omega
 have e:(tQ c).getD 0 0=(tI c.num).getD 0 0:=by
  by_cases hd:c.den=1
  ·rw[qak hd]
  ·rw[q68 hd]
   obtain⟨x,t,ex⟩:∃x t,tI c.num=x::t:=List.exists_cons_of_ne_nil (List.length_pos_iff.1 (qs3 _))
   rw[ex];simp
 rw[e,qyc];exact hn
theorem qia(s:List UInt8):(sat s 0=45)=(s.getD 0 0=45):=by
 unfold sat
 simp only[Int.toNat_zero,eq_iff_iff]
 exact⟨fun h=>UInt8.toNat_inj.1 (by show (s.getD 0 0).toNat=45;omega),fun h=>by rw[h];rfl⟩
structure RootOk (a b c:Rat):Prop where
 oa:okQ a
 ob:okQ b
 oc:okQ c
 x1:okL (a.num*b.den)
 x:okL (rX a b c)
 y:okL (rY a b)
 r:okL (rR c)
 xx:okL (rX a b c*rX a b c)
 yy:okL (rY a b*rY a b)
 yr:okL (rY a b*rY a b*rR c)
 d:okL (rX a b c*rX a b c-rY a b*rY a b*rR c)
theorem qvJ{a b c:Rat}(h:RootOk a b c)(hc:0≤c):(q1t [.s (tQ a),.s (tQ b),.s (tQ c)]).run=some (0,[.i (qgh a b c),.i 0]):=by
 rw[qkd]
 have key:(q0e [.s (tQ a),.s (tQ b),.s (tQ c),.s [48],.s [48]]).run=some (0,[.i (qgh a b c),.i 0]):=by
  rw[qi8]
  have o0:okQ 0:=qaf.ok (by omega) (by omega)
  have hz:=qfO o0
  rw[show tQ 0=[48] from rfl] at hz
  have hch:=qsP (l:=[tQ a,tQ b,tQ c,[48],[48]]) (by simp) (fun s hs=>by
   simp only[List.mem_cons,List.not_mem_nil,or_false] at hs
   rcases hs with rfl|rfl|rfl|rfl|rfl
   ·exact qfO h.oa
   ·exact qfO h.ob
   ·exact qfO h.oc
   ·exact hz
   ·exact hz)
  have hch':(qV [.r [[.s (tQ a)],[.s (tQ b)],[.s (tQ c)],[.s [48]],[.s [48]]]]).run=some (0,[.i 0]):=hch
  have c0:=q9n o0
  rw[show tQ 0=[48] from rfl] at c0
  replace c0:(qN [.s [48]]).run=some (0,[.s [48],.s [49],.b false]):=c0
  have l1:(0:Int)<wl (tQ c):=by
   have h1:=qnj c
   have h2:=qnP c
   unfold wl;omega
  have l2:(0:Int)<wl [48]:=by decide
  have n1:¬sat (tQ c) 0=45:=by rw[qia];exact qAU hc
  have n2:¬sat [48] 0=45:=by decide
  have mx:=qr9 [a.num,b.den,c.den,1,1] ⟨q8C,q4A h.oa,by rw[Int.one_mul];exact q4A h.oa,q04 h.ob,by rw[Int.one_mul];exact h.x1,q04 h.oc,by rw[Int.one_mul];exact h.x,q8C,by rw[Int.one_mul,Int.mul_one];exact h.x,q8C,by rw[Int.one_mul,Int.mul_one,Int.mul_one];exact h.x⟩ (by simp)
  have my:=qr9 [b.num,a.den,1,1] ⟨q8C,q4A h.ob,by rw[Int.one_mul];exact q4A h.ob,q04 h.oa,by rw[Int.one_mul];exact h.y,q8C,by rw[Int.one_mul,Int.mul_one];exact h.y,q8C,by rw[Int.one_mul,Int.mul_one,Int.mul_one];exact h.y⟩ (by simp)
  have mr:=qbM (q4A h.oc) (q04 h.oc) h.r
  have mz:=qr9 [0,a.den,b.den,c.den] ⟨q8C,q88,by rw[Int.mul_zero];exact q88,q04 h.oa,by simp only[Int.mul_zero];exact qv6 _,q04 h.ob,by simp only[Int.mul_zero,Int.zero_mul];exact q88,q04 h.oc,by simp only[Int.mul_zero,Int.zero_mul];exact q88⟩ (by simp)
  have mt:=qbM (m:=0) (n:=1) q88 q8C (qv6 _)
  simp only[prd,Int.one_mul,Int.mul_one,Int.zero_mul] at mx my mz mt
  have mx':(qg [.r [[.s (tI a.num)],[.s (tI (b.den:Int))],[.s (tI (c.den:Int))],[.s [49]],[.s [49]]],.i 0]).run=some (0,[.s (tI (rX a b c)),.i 0]):=mx
  have my':(qg [.r [[.s (tI b.num)],[.s (tI (a.den:Int))],[.s [49]],[.s [49]]],.i 0]).run=some (0,[.s (tI (rY a b)),.i 0]):=my
  have mr':(qg [.r [[.s (tI c.num)],[.s (tI (c.den:Int))]],.i 0]).run=some (0,[.s (tI (rR c)),.i 0]):=mr
  have mz':(qg [.r [[.s [48]],[.s (tI (a.den:Int))],[.s (tI (b.den:Int))],[.s (tI (c.den:Int))]],.i 0]).run=some (0,[.s (tI 0),.i 0]):=mz
  have mt':(qg [.r [[.s [48]],[.s [49]]],.i 0]).run=some (0,[.s (tI 0),.i 0]):=mt
  have hR:=qBe h.x h.y h.r h.xx h.yy h.yr h.d
  rw[←qx5] at hR
  have w1:jF .i64 (sgn 0) (sgn 0)=0:=by decide
  have w2:jF .i64 (qgh a b c) 0=0:=by rw[yP (by rw[Int.mul_zero];omega),Int.mul_zero]
  by_cases h0:qgh a b c=0
  ·simp only[STD,hch',l1,l2,n1,n2,Int.le_refl,and_self,q9n h.oa,q9n h.ob,q9n h.oc,c0,mx',my',mr',mz',mt',hR,q7p q88,w1,h0,show jF .i64 0 0=0 from rfl]
  ·simp only[STD,hch',l1,l2,n1,n2,Int.le_refl,and_self,q9n h.oa,q9n h.ob,q9n h.oc,c0,mx',my',mr',mz',mt',hR,q7p q88,w1,w2,h0]
 simp only[STD,key]
theorem RootOk.of{N D N' D' R E:Nat}{a b c:Rat}(ha:bnd N D a)(hb:bnd N' D' b)(hc:bnd R E c)(h1:2*(N+D'+E)≤1023)(h2:2*(N'+D)+R+E≤1023):RootOk a b c:=by
 have q1:nl a.num≤N:=ha.1
 have q2:nl (a.den:Int)≤D:=ha.2
 have q3:nl b.num≤N':=hb.1
 have q4:nl (b.den:Int)≤D':=hb.2
 have q5:nl c.num≤R:=hc.1
 have q6:nl (c.den:Int)≤E:=hc.2
 have x1:=q4L a.num b.den
 have x2:=q4L (a.num*b.den) c.den
 have y1:=q4L b.num a.den
 have r1:=q4L c.num c.den
 have xx:=q4L (rX a b c) (rX a b c)
 have yy:=q4L (rY a b) (rY a b)
 have yr:=q4L (rY a b*rY a b) (rR c)
 have dd:=qy0 (rX a b c*rX a b c) (rY a b*rY a b*rR c)
 have e1:nl (rX a b c)=nl (a.num*b.den*c.den):=rfl
 have e2:nl (rY a b)=nl (b.num*a.den):=rfl
 have e3:nl (rR c)=nl (c.num*c.den):=rfl
 have p1:=qn2 a.num
 have p2:=qn2 b.num
 have p3:=qn2 c.num
 have p4:=qn2 (a.den:Int)
 have p5:=qn2 (b.den:Int)
 have p6:=qn2 (c.den:Int)
 exact { oa:=⟨by show nl a.num≤1024;omega,by show nl (a.den:Int)≤1024;omega⟩,ob:=⟨by show nl b.num≤1024;omega,by show nl (b.den:Int)≤1024;omega⟩,oc:=⟨by show nl c.num≤1024;omega,by show nl (c.den:Int)≤1024;omega⟩,x1:=by unfold okL;omega,x:=by unfold okL;omega,y:=by unfold okL;omega,r:=by unfold okL;omega,xx:=by unfold okL;omega,yy:=by unfold okL;omega,yr:=by unfold okL;omega,d:=by unfold okL;omega }
end Go.Eng

