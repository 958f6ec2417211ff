/- Texts of the proof, merged: what the code computes, and plain laws. No statement stands here. -/
import Derived.OpenShut
import Derived.Deep.Slices
import Derived.SizedLaws
import Derived.Below
import Derived.Lib.LaidTab
import Derived.Test.YtehgceikghodkaaGreatDoorM3
namespace Go.Eng
theorem qcK(y0:Int)(y1:Int)(y2:R):q1c [.i y0,.i y1,.r y2]=(.br (ilt y1 y0) (.br (inb y1 (qt y2)) (.br (ilt 12 (ql (cS y2 y1 0))) (.leaf (2,[(.b false)])) (.leaf (0,[(.i y0),(.i (qh .i64 y1 1)),(.r y2)]))) .fail) (.leaf (1,[]))):=by kernel_rfl
theorem qmF(x0:List UInt8)(x1:List UInt8)(x2:List UInt8):q1Z [.s x0,.s x1,.s x2]=(let r0:TR:=(qg q1c [(.i (qt [[(.s x0)],[(.s x1)],[(.s x2)]])),(.i 0),(.r [[(.s x0)],[(.s x1)],[(.s x2)]])])
 .br (okR r0) (.br (jIs r0 0) (.leaf (0,[(.b true)])) (.leaf (0,[(.b (gB r0 0))]))) .fail):=by kernel_rfl
theorem qf8(y0:R)(y1:Int):q4d [.r y0,.i y1]=(.br (ilt y1 (qt y0)) (.br (ilt y1 6) (.br (inb y1 (qt y0)) (let r0:TR:=(q1Z [(.s (cS y0 y1 0)),(.s (cS y0 y1 1)),(.s (cS y0 y1 2))])
 .br (okR r0) (.br (not (gB r0 0)) (.leaf (2,[(.b false)])) (.leaf (0,[(.r y0),(.i (qh .i64 y1 1))]))) .fail) .fail) (.leaf (1,[(.r y0)]))) (.leaf (1,[(.r y0)]))):=by kernel_rfl
theorem qq8(x0:R):q8i [.r x0]=(let r0:TR:=(qg q4d [(.r x0),(.i 0)])
 .br (okR r0) (.br (jIs r0 0) (.br (ile (qt (gR r0 0)) 5) (.leaf (0,[(.b true)])) (.br (ilt 64 (qt (gR r0 0))) (.leaf (0,[(.b (ilt (qt (gR r0 0)) 128))])) (.leaf (0,[(.b false)])))) (.leaf (0,[(.b (gB r0 0))]))) .fail):=by kernel_rfl
theorem q7Y(x0:List UInt8)(x1:List UInt8):zQ [.s x0,.s x1]=(let r0:TR:=(wW [(.s x0),(.s x1)])
 .br (okR r0) (.br (ile 0 (gI r0 0)) (.br (q5v (gI r0 0) (ql x0)) (.br (q5v 0 (gI r0 0)) (.br (q5v (ql x0) (ql x0)) (.br (q5v (qh .i64 (gI r0 0) (ql x1)) (ql x0)) (.leaf (0,[(.s (q9J x0 0 (gI r0 0))),(.s (q9J x0 (qh .i64 (gI r0 0) (ql x1)) (ql x0))),(.b true)])) .fail) .fail) .fail) .fail) (.leaf (0,[(.s x0),(.s []),(.b false)]))) .fail):=by kernel_rfl
theorem qmw(x0:List UInt8)(x1:List UInt8):q3Y [.s x0,.s x1]=(let r0:TR:=(zQ [(.s x0),(.s x1)])
 .br (okR r0) (.leaf (0,[(.s (gS r0 0)),(.s (gS r0 1)),(.b (gB r0 2))])) .fail):=by kernel_rfl
theorem qql(x0:List UInt8):qM [.s x0]=(let r0:TR:=(q3Y [(.s x0),(.s [47])])
 .br (okR r0) (.br (not (gB r0 2)) (.leaf (0,[(.s (gS r0 0)),(.s [49]),(.b (gB r0 2))])) (.leaf (0,[(.s (gS r0 0)),(.s (gS r0 1)),(.b (gB r0 2))]))) .fail):=by kernel_rfl
theorem q4c(x0:List UInt8)(x1:List UInt8):qF [.s x0,.s x1]=(.br (ile (ql x1) (ql x0)) (.br (q5v (ql x1) (ql x0)) (.br (q5v 0 (ql x1)) (.leaf (0,[(.b (seq (q9J x0 0 (ql x1)) x1))])) .fail) .fail) (.leaf (0,[(.b false)]))):=by kernel_rfl
theorem q3M(x0:List UInt8)(x1:List UInt8):qX [.s x0,.s x1]=(let r0:TR:=(qF [(.s x0),(.s x1)])
 .br (okR r0) (.br (gB r0 0) (.br (q5v (ql x0) (ql x0)) (.br (q5v (ql x1) (ql x0)) (.leaf (0,[(.s (q9J x0 (ql x1) (ql x0)))])) .fail) .fail) (.leaf (0,[(.s x0)]))) .fail):=by kernel_rfl
theorem qdr(x0:List UInt8)(x1:List UInt8):qN [.s x0,.s x1]=(let r0:TR:=(qX [(.s x0),(.s x1)])
 .br (okR r0) (.leaf (0,[(.s (gS r0 0))])) .fail):=by kernel_rfl
theorem qmH(x0:List UInt8):qY [.s x0]=(let r0:TR:=(qN [(.s x0),(.s [45])])
 .br (okR r0) (.br (seq (gS r0 0) []) (.leaf (0,[(.i 3)])) (let r1:TR:=(q5z [(.s (gS r0 0)),(.s [48,49,50,51,52,53,54,55,56,57])])
 .br (okR r1) (.br (not (seq (gS r1 0) [])) (.leaf (0,[(.i 3)])) (.br (inb 0 (ql (gS r0 0))) (.br (ieq (sat (gS r0 0) 0) 48) (.br (not (seq x0 [48])) (.leaf (0,[(.i 3)])) (.br (ilt 1024 (ql (gS r0 0))) (.leaf (0,[(.i 11)])) (.leaf (0,[(.i 0)])))) (.br (ilt 1024 (ql (gS r0 0))) (.leaf (0,[(.i 11)])) (.leaf (0,[(.i 0)])))) .fail)) .fail)) .fail):=by kernel_rfl
theorem qeY(y0:R)(y1:Int)(y2:Int):q4w [.r y0,.i y1,.i y2]=(.br (ilt y2 y1) (.br (inb y2 (qt y0)) (let r0:TR:=(qY [(.s (cS y0 y2 0))])
 .br (okR r0) (.br (ine (gI r0 0) 0) (.leaf (2,[(.i (gI r0 0))])) (.leaf (0,[(.r y0),(.i y1),(.i (qh .i64 y2 1))]))) .fail) .fail) (.leaf (1,[]))):=by kernel_rfl
theorem qpt(x0:R):zA [.r x0]=(let r0:TR:=(qg q4w [(.r x0),(.i (qt x0)),(.i 0)])
 .br (okR r0) (.br (jIs r0 0) (.leaf (0,[(.i 0)])) (.leaf (0,[(.i (gI r0 0))]))) .fail):=by kernel_rfl
theorem qoX(x0:List UInt8):jK [.s x0]=(.br (seq x0 [48]) (.leaf (0,[(.i 0)])) (.br (inb 0 (ql x0)) (.br (ieq (sat x0 0) 45) (.leaf (0,[(.i (-1))])) (.leaf (0,[(.i 1)]))) .fail)):=by kernel_rfl
theorem qmU(x0:List UInt8)(x1:List UInt8):q4f [.s x0,.s x1]=(.br (ine (ql x0) (ql x1)) (.br (ilt (ql x0) (ql x1)) (.leaf (0,[(.i (-1))])) (.leaf (0,[(.i 1)]))) (let r0:TR:=(q1W [(.s x0),(.s x1)])
 .br (okR r0) (.leaf (0,[(.i (gI r0 0))])) .fail)):=by kernel_rfl
theorem qjG(x0:List UInt8)(x1:List UInt8):q1s [.s x0,.s x1]=(let r0:TR:=(zA [(.r [[(.s x0)],[(.s x1)]])])
 .br (okR r0) (.br (ine (gI r0 0) 0) (.leaf (0,[(.i 0),(.i (gI r0 0))])) (let r1:TR:=(jK [(.s x0)])
 .br (okR r1) (let r2:TR:=(jK [(.s x1)])
 .br (okR r2) (.br (ilt (gI r1 0) (gI r2 0)) (.leaf (0,[(.i (-1)),(.i 0)])) (.br (okR r2) (.br (ilt (gI r2 0) (gI r1 0)) (.leaf (0,[(.i 1),(.i 0)])) (let r3:TR:=(qN [(.s x0),(.s [45])])
 .br (okR r3) (let r4:TR:=(qN [(.s x1),(.s [45])])
 .br (okR r4) (let r5:TR:=(q4f [(.s (gS r3 0)),(.s (gS r4 0))])
 .br (okR r5) (.leaf (0,[(.i (uM .i64 (gI r1 0) (gI r5 0))),(.i 0)])) .fail) .fail) .fail)) .fail)) .fail) .fail)) .fail):=by kernel_rfl
theorem qbt(y0:Bool)(y1:Int)(y2:R):vD [.b y0,.i y1,.r y2]=(.br (ilt 0 y1) (.br (inb (qA .i64 y1 1) 232) (.br (inb (qA .i64 y1 1) 232) (.br (ieq (cI y2 (qA .i64 y1 1) 0) 0) (.leaf (0,[(.b y0),(.i (qA .i64 y1 1)),(.r y2)])) (.leaf (1,[(.b y0),(.i y1),(.r y2)]))) .fail) .fail) (.leaf (1,[(.b y0),(.i y1),(.r y2)]))):=by kernel_rfl
theorem qdg(x0:Bool)(x1:Int)(x2:R):qz [.b x0,.i x1,.r x2]=(let r0:TR:=(qg vD [(.b x0),(.i x1),(.r x2)])
 .br (okR r0) (.leaf (0,[(.b (gB r0 0)),(.i (gI r0 1)),(.r (gR r0 2))])) .fail):=by kernel_rfl
theorem qks(y0:List UInt8)(y1:Bool)(y2:Int)(y3:R):q2G [.s y0,.b y1,.i y2,.r y3]=(.br (ilt 0 (ql y0)) (.br (q5v (ql y0) (ql y0)) (.br (q5v (qd5 0 (qA .i64 (ql y0) 9)) (ql y0)) (let r0:TR:=(v6 [(.s (q9J y0 (qd5 0 (qA .i64 (ql y0) 9)) (ql y0)))])
 .br (okR r0) (.br (inb y2 232) (.br (inb y2 232) (.br (q5v (qd5 0 (qA .i64 (ql y0) 9)) (ql y0)) (.br (q5v 0 (qd5 0 (qA .i64 (ql y0) 9))) (.leaf (0,[(.s (q9J y0 0 (qd5 0 (qA .i64 (ql y0) 9)))),(.b y1),(.i (qh .i64 y2 1)),(.r (qbm y3 y2 0 [(.i (gI r0 0))]))])) .fail) .fail) .fail) .fail) .fail) .fail) .fail) (.leaf (1,[(.b y1),(.i y2),(.r y3)]))):=by kernel_rfl
theorem qo2(x0:List UInt8):zl [.s x0]=(.br (inb 0 (ql x0)) (let r0:TR:=(qN [(.s x0),(.s [45])])
 .br (okR r0) (let r1:TR:=(qg q2G [(.s (gS r0 0)),(.b (ieq (sat x0 0) 45)),(.i 0),(.r (q2n 232 [(.i 0)]))])
 .br (okR r1) (let r2:TR:=(qz [(.b (gB r1 0)),(.i (gI r1 1)),(.r (gR r1 2))])
 .br (okR r2) (.leaf (0,[(.b (gB r2 0)),(.i (gI r2 1)),(.r (gR r2 2))])) .fail) .fail) .fail) .fail):=by kernel_rfl
theorem qrp(x0:Int):wJ [.i x0]=(.br (okR (q2H [(.i x0)])) (.leaf (0,[(.s (gS (q2H [(.i x0)]) 0))])) .fail):=by kernel_rfl
theorem qd2(y0:Int)(y1:Bool)(y2:Int)(y3:R)(y4:Bool)(y5:Int)(y6:R):j7 [.i y0,.b y1,.i y2,.r y3,.b y4,.i y5,.r y6]=(.br (ile 0 y0) (.br (inb y0 232) (.br (inb y0 232) (.br (inb y0 232) (.br (inb y0 232) (.br (ine (cI y3 y0 0) (cI y6 y0 0)) (.br (inb y0 232) (.br (inb y0 232) (.br (inb y0 232) (.br (inb y0 232) (.leaf (2,[(.i (qA .i64 (cI y3 y0 0) (cI y6 y0 0))),(.b y1),(.i y2),(.r y3),(.b y4),(.i y5),(.r y6)])) .fail) .fail) .fail) .fail) (.leaf (0,[(.i (qA .i64 y0 1)),(.b y1),(.i y2),(.r y3),(.b y4),(.i y5),(.r y6)]))) .fail) .fail) .fail) .fail) (.leaf (1,[(.b y1),(.i y2),(.r y3),(.b y4),(.i y5),(.r y6)]))):=by kernel_rfl
theorem qeP(x0:Bool)(x1:Int)(x2:R)(x3:Bool)(x4:Int)(x5:R):zo [.b x0,.i x1,.r x2,.b x3,.i x4,.r x5]=(.br (ine x1 x4) (.leaf (0,[(.i (qA .i64 x1 x4)),(.b x0),(.i x1),(.r x2),(.b x3),(.i x4),(.r x5)])) (let r0:TR:=(qg j7 [(.i (qA .i64 x1 1)),(.b x0),(.i x1),(.r x2),(.b x3),(.i x4),(.r x5)])
 .br (okR r0) (.br (jIs r0 0) (.leaf (0,[(.i 0),(.b (gB r0 0)),(.i (gI r0 1)),(.r (gR r0 2)),(.b (gB r0 3)),(.i (gI r0 4)),(.r (gR r0 5))])) (.leaf (0,[(.i (gI r0 0)),(.b (gB r0 1)),(.i (gI r0 2)),(.r (gR r0 3)),(.b (gB r0 4)),(.i (gI r0 5)),(.r (gR r0 6))]))) .fail)):=by kernel_rfl
theorem qj7(x0:Bool)(x1:Int)(x2:R)(x3:Bool)(x4:Int)(x5:R):jp [.b x0,.i x1,.r x2,.b x3,.i x4,.r x5]=(.br (ilt x4 0) (.br (ilt (qA .i64 x4 1) 0) (.br (ilt (qA .i64 x4 1) 0) (.br (ilt 1 x4) (.leaf (0,[(.i 1),(.b x0),(.i x1),(.r x2),(.b x3),(.i x4),(.r x5)])) .fail) (.br (ile x4 (qA .i64 x4 1)) (.br (ilt 1 x4) (.leaf (0,[(.i 1),(.b x0),(.i x1),(.r x2),(.b x3),(.i x4),(.r x5)])) .fail) (.br (inb (qA .i64 x4 1) 232) (.br (inb (qA .i64 x4 1) 232) (.br (ilt 1 x4) (.br (ine (qh .i64 (cI x5 (qA .i64 x4 1) 0) 1) 0) (.br (ilt 0 (jG .i64 0 (qh .i64 (cI x5 (qA .i64 x4 1) 0) 1))) (.leaf (0,[(.i (q8w (jG .i64 0 (qh .i64 (cI x5 (qA .i64 x4 1) 0) 1)) 999999999)),(.b x0),(.i x1),(.r x2),(.b x3),(.i x4),(.r x5)])) (.leaf (0,[(.i 1),(.b x0),(.i x1),(.r x2),(.b x3),(.i x4),(.r x5)]))) .fail) (.br (ine (cI x5 (qA .i64 x4 1) 0) 0) (.br (ilt 0 (jG .i64 0 (cI x5 (qA .i64 x4 1) 0))) (.leaf (0,[(.i (q8w (jG .i64 0 (cI x5 (qA .i64 x4 1) 0)) 999999999)),(.b x0),(.i x1),(.r x2),(.b x3),(.i x4),(.r x5)])) (.leaf (0,[(.i 1),(.b x0),(.i x1),(.r x2),(.b x3),(.i x4),(.r x5)]))) .fail)) .fail) .fail))) (.br (ile x1 (qA .i64 x4 1)) (.br (ilt (qA .i64 x4 1) 0) (.br (ilt 1 x4) (.leaf (0,[(.i 1),(.b x0),(.i x1),(.r x2),(.b x3),(.i x4),(.r x5)])) .fail) (.br (ile x4 (qA .i64 x4 1)) (.br (ilt 1 x4) (.leaf (0,[(.i 1),(.b x0),(.i x1),(.r x2),(.b x3),(.i x4),(.r x5)])) .fail) (.br (inb (qA .i64 x4 1) 232) (.br (inb (qA .i64 x4 1) 232) (.br (ilt 1 x4) (.br (ine (qh .i64 (cI x5 (qA .i64 x4 1) 0) 1) 0) (.br (ilt 0 (jG .i64 0 (qh .i64 (cI x5 (qA .i64 x4 1) 0) 1))) (.leaf (0,[(.i (q8w (jG .i64 0 (qh .i64 (cI x5 (qA .i64 x4 1) 0) 1)) 999999999)),(.b x0),(.i x1),(.r x2),(.b x3),(.i x4),(.r x5)])) (.leaf (0,[(.i 1),(.b x0),(.i x1),(.r x2),(.b x3),(.i x4),(.r x5)]))) .fail) (.br (ine (cI x5 (qA .i64 x4 1) 0) 0) (.br (ilt 0 (jG .i64 0 (cI x5 (qA .i64 x4 1) 0))) (.leaf (0,[(.i (q8w (jG .i64 0 (cI x5 (qA .i64 x4 1) 0)) 999999999)),(.b x0),(.i x1),(.r x2),(.b x3),(.i x4),(.r x5)])) (.leaf (0,[(.i 1),(.b x0),(.i x1),(.r x2),(.b x3),(.i x4),(.r x5)]))) .fail)) .fail) .fail))) (.br (inb (qA .i64 x4 1) 232) (.br (inb (qA .i64 x4 1) 232) (.br (ilt (qA .i64 x4 1) 0) (.br (ilt 1 x4) (.br (ilt 0 (jG .i64 (qh .i64 0 (cI x2 (qA .i64 x4 1) 0)) 1)) (.leaf (0,[(.i (q8w (jG .i64 (qh .i64 0 (cI x2 (qA .i64 x4 1) 0)) 1) 999999999)),(.b x0),(.i x1),(.r x2),(.b x3),(.i x4),(.r x5)])) (.leaf (0,[(.i 1),(.b x0),(.i x1),(.r x2),(.b x3),(.i x4),(.r x5)]))) .fail) (.br (ile x4 (qA .i64 x4 1)) (.br (ilt 1 x4) (.br (ilt 0 (jG .i64 (qh .i64 0 (cI x2 (qA .i64 x4 1) 0)) 1)) (.leaf (0,[(.i (q8w (jG .i64 (qh .i64 0 (cI x2 (qA .i64 x4 1) 0)) 1) 999999999)),(.b x0),(.i x1),(.r x2),(.b x3),(.i x4),(.r x5)])) (.leaf (0,[(.i 1),(.b x0),(.i x1),(.r x2),(.b x3),(.i x4),(.r x5)]))) .fail) (.br (inb (qA .i64 x4 1) 232) (.br (inb (qA .i64 x4 1) 232) (.br (ilt 1 x4) (.br (ine (qh .i64 (cI x5 (qA .i64 x4 1) 0) 1) 0) (.br (ilt 0 (jG .i64 (qh .i64 0 (cI x2 (qA .i64 x4 1) 0)) (qh .i64 (cI x5 (qA .i64 x4 1) 0) 1))) (.leaf (0,[(.i (q8w (jG .i64 (qh .i64 0 (cI x2 (qA .i64 x4 1) 0)) (qh .i64 (cI x5 (qA .i64 x4 1) 0) 1)) 999999999)),(.b x0),(.i x1),(.r x2),(.b x3),(.i x4),(.r x5)])) (.leaf (0,[(.i 1),(.b x0),(.i x1),(.r x2),(.b x3),(.i x4),(.r x5)]))) .fail) (.br (ine (cI x5 (qA .i64 x4 1) 0) 0) (.br (ilt 0 (jG .i64 (qh .i64 0 (cI x2 (qA .i64 x4 1) 0)) (cI x5 (qA .i64 x4 1) 0))) (.leaf (0,[(.i (q8w (jG .i64 (qh .i64 0 (cI x2 (qA .i64 x4 1) 0)) (cI x5 (qA .i64 x4 1) 0)) 999999999)),(.b x0),(.i x1),(.r x2),(.b x3),(.i x4),(.r x5)])) (.leaf (0,[(.i 1),(.b x0),(.i x1),(.r x2),(.b x3),(.i x4),(.r x5)]))) .fail)) .fail) .fail))) .fail) .fail))) (.br (ile x1 x4) (.br (ilt (qA .i64 x4 1) 0) (.br (ilt (qA .i64 x4 1) 0) (.br (ilt 1 x4) (.leaf (0,[(.i 1),(.b x0),(.i x1),(.r x2),(.b x3),(.i x4),(.r x5)])) .fail) (.br (ile x4 (qA .i64 x4 1)) (.br (ilt 1 x4) (.leaf (0,[(.i 1),(.b x0),(.i x1),(.r x2),(.b x3),(.i x4),(.r x5)])) .fail) (.br (inb (qA .i64 x4 1) 232) (.br (inb (qA .i64 x4 1) 232) (.br (ilt 1 x4) (.br (ine (qh .i64 (cI x5 (qA .i64 x4 1) 0) 1) 0) (.br (ilt 0 (jG .i64 0 (qh .i64 (cI x5 (qA .i64 x4 1) 0) 1))) (.leaf (0,[(.i (q8w (jG .i64 0 (qh .i64 (cI x5 (qA .i64 x4 1) 0) 1)) 999999999)),(.b x0),(.i x1),(.r x2),(.b x3),(.i x4),(.r x5)])) (.leaf (0,[(.i 1),(.b x0),(.i x1),(.r x2),(.b x3),(.i x4),(.r x5)]))) .fail) (.br (ine (cI x5 (qA .i64 x4 1) 0) 0) (.br (ilt 0 (jG .i64 0 (cI x5 (qA .i64 x4 1) 0))) (.leaf (0,[(.i (q8w (jG .i64 0 (cI x5 (qA .i64 x4 1) 0)) 999999999)),(.b x0),(.i x1),(.r x2),(.b x3),(.i x4),(.r x5)])) (.leaf (0,[(.i 1),(.b x0),(.i x1),(.r x2),(.b x3),(.i x4),(.r x5)]))) .fail)) .fail) .fail))) (.br (ile x1 (qA .i64 x4 1)) (.br (ilt (qA .i64 x4 1) 0) (.br (ilt 1 x4) (.leaf (0,[(.i 1),(.b x0),(.i x1),(.r x2),(.b x3),(.i x4),(.r x5)])) .fail) (.br (ile x4 (qA .i64 x4 1)) (.br (ilt 1 x4) (.leaf (0,[(.i 1),(.b x0),(.i x1),(.r x2),(.b x3),(.i x4),(.r x5)])) .fail) (.br (inb (qA .i64 x4 1) 232) (.br (inb (qA .i64 x4 1) 232) (.br (ilt 1 x4) (.br (ine (qh .i64 (cI x5 (qA .i64 x4 1) 0) 1) 0) (.br (ilt 0 (jG .i64 0 (qh .i64 (cI x5 (qA .i64 x4 1) 0) 1))) (.leaf (0,[(.i (q8w (jG .i64 0 (qh .i64 (cI x5 (qA .i64 x4 1) 0) 1)) 999999999)),(.b x0),(.i x1),(.r x2),(.b x3),(.i x4),(.r x5)])) (.leaf (0,[(.i 1),(.b x0),(.i x1),(.r x2),(.b x3),(.i x4),(.r x5)]))) .fail) (.br (ine (cI x5 (qA .i64 x4 1) 0) 0) (.br (ilt 0 (jG .i64 0 (cI x5 (qA .i64 x4 1) 0))) (.leaf (0,[(.i (q8w (jG .i64 0 (cI x5 (qA .i64 x4 1) 0)) 999999999)),(.b x0),(.i x1),(.r x2),(.b x3),(.i x4),(.r x5)])) (.leaf (0,[(.i 1),(.b x0),(.i x1),(.r x2),(.b x3),(.i x4),(.r x5)]))) .fail)) .fail) .fail))) (.br (inb (qA .i64 x4 1) 232) (.br (inb (qA .i64 x4 1) 232) (.br (ilt (qA .i64 x4 1) 0) (.br (ilt 1 x4) (.br (ilt 0 (jG .i64 (qh .i64 0 (cI x2 (qA .i64 x4 1) 0)) 1)) (.leaf (0,[(.i (q8w (jG .i64 (qh .i64 0 (cI x2 (qA .i64 x4 1) 0)) 1) 999999999)),(.b x0),(.i x1),(.r x2),(.b x3),(.i x4),(.r x5)])) (.leaf (0,[(.i 1),(.b x0),(.i x1),(.r x2),(.b x3),(.i x4),(.r x5)]))) .fail) (.br (ile x4 (qA .i64 x4 1)) (.br (ilt 1 x4) (.br (ilt 0 (jG .i64 (qh .i64 0 (cI x2 (qA .i64 x4 1) 0)) 1)) (.leaf (0,[(.i (q8w (jG .i64 (qh .i64 0 (cI x2 (qA .i64 x4 1) 0)) 1) 999999999)),(.b x0),(.i x1),(.r x2),(.b x3),(.i x4),(.r x5)])) (.leaf (0,[(.i 1),(.b x0),(.i x1),(.r x2),(.b x3),(.i x4),(.r x5)]))) .fail) (.br (inb (qA .i64 x4 1) 232) (.br (inb (qA .i64 x4 1) 232) (.br (ilt 1 x4) (.br (ine (qh .i64 (cI x5 (qA .i64 x4 1) 0) 1) 0) (.br (ilt 0 (jG .i64 (qh .i64 0 (cI x2 (qA .i64 x4 1) 0)) (qh .i64 (cI x5 (qA .i64 x4 1) 0) 1))) (.leaf (0,[(.i (q8w (jG .i64 (qh .i64 0 (cI x2 (qA .i64 x4 1) 0)) (qh .i64 (cI x5 (qA .i64 x4 1) 0) 1)) 999999999)),(.b x0),(.i x1),(.r x2),(.b x3),(.i x4),(.r x5)])) (.leaf (0,[(.i 1),(.b x0),(.i x1),(.r x2),(.b x3),(.i x4),(.r x5)]))) .fail) (.br (ine (cI x5 (qA .i64 x4 1) 0) 0) (.br (ilt 0 (jG .i64 (qh .i64 0 (cI x2 (qA .i64 x4 1) 0)) (cI x5 (qA .i64 x4 1) 0))) (.leaf (0,[(.i (q8w (jG .i64 (qh .i64 0 (cI x2 (qA .i64 x4 1) 0)) (cI x5 (qA .i64 x4 1) 0)) 999999999)),(.b x0),(.i x1),(.r x2),(.b x3),(.i x4),(.r x5)])) (.leaf (0,[(.i 1),(.b x0),(.i x1),(.r x2),(.b x3),(.i x4),(.r x5)]))) .fail)) .fail) .fail))) .fail) .fail))) (.br (inb x4 232) (.br (inb x4 232) (.br (ilt (qA .i64 x4 1) 0) (.br (ilt (qA .i64 x4 1) 0) (.br (ilt 1 x4) (.br (ilt 0 (jG .i64 (qh .i64 (uM .i64 (cI x2 x4 0) 1000000000) 0) 1)) (.leaf (0,[(.i (q8w (jG .i64 (qh .i64 (uM .i64 (cI x2 x4 0) 1000000000) 0) 1) 999999999)),(.b x0),(.i x1),(.r x2),(.b x3),(.i x4),(.r x5)])) (.leaf (0,[(.i 1),(.b x0),(.i x1),(.r x2),(.b x3),(.i x4),(.r x5)]))) .fail) (.br (ile x4 (qA .i64 x4 1)) (.br (ilt 1 x4) (.br (ilt 0 (jG .i64 (qh .i64 (uM .i64 (cI x2 x4 0) 1000000000) 0) 1)) (.leaf (0,[(.i (q8w (jG .i64 (qh .i64 (uM .i64 (cI x2 x4 0) 1000000000) 0) 1) 999999999)),(.b x0),(.i x1),(.r x2),(.b x3),(.i x4),(.r x5)])) (.leaf (0,[(.i 1),(.b x0),(.i x1),(.r x2),(.b x3),(.i x4),(.r x5)]))) .fail) (.br (inb (qA .i64 x4 1) 232) (.br (inb (qA .i64 x4 1) 232) (.br (ilt 1 x4) (.br (ine (qh .i64 (cI x5 (qA .i64 x4 1) 0) 1) 0) (.br (ilt 0 (jG .i64 (qh .i64 (uM .i64 (cI x2 x4 0) 1000000000) 0) (qh .i64 (cI x5 (qA .i64 x4 1) 0) 1))) (.leaf (0,[(.i (q8w (jG .i64 (qh .i64 (uM .i64 (cI x2 x4 0) 1000000000) 0) (qh .i64 (cI x5 (qA .i64 x4 1) 0) 1)) 999999999)),(.b x0),(.i x1),(.r x2),(.b x3),(.i x4),(.r x5)])) (.leaf (0,[(.i 1),(.b x0),(.i x1),(.r x2),(.b x3),(.i x4),(.r x5)]))) .fail) (.br (ine (cI x5 (qA .i64 x4 1) 0) 0) (.br (ilt 0 (jG .i64 (qh .i64 (uM .i64 (cI x2 x4 0) 1000000000) 0) (cI x5 (qA .i64 x4 1) 0))) (.leaf (0,[(.i (q8w (jG .i64 (qh .i64 (uM .i64 (cI x2 x4 0) 1000000000) 0) (cI x5 (qA .i64 x4 1) 0)) 999999999)),(.b x0),(.i x1),(.r x2),(.b x3),(.i x4),(.r x5)])) (.leaf (0,[(.i 1),(.b x0),(.i x1),(.r x2),(.b x3),(.i x4),(.r x5)]))) .fail)) .fail) .fail))) (.br (ile x1 (qA .i64 x4 1)) (.br (ilt (qA .i64 x4 1) 0) (.br (ilt 1 x4) (.br (ilt 0 (jG .i64 (qh .i64 (uM .i64 (cI x2 x4 0) 1000000000) 0) 1)) (.leaf (0,[(.i (q8w (jG .i64 (qh .i64 (uM .i64 (cI x2 x4 0) 1000000000) 0) 1) 999999999)),(.b x0),(.i x1),(.r x2),(.b x3),(.i x4),(.r x5)])) (.leaf (0,[(.i 1),(.b x0),(.i x1),(.r x2),(.b x3),(.i x4),(.r x5)]))) .fail) (.br (ile x4 (qA .i64 x4 1)) (.br (ilt 1 x4) (.br (ilt 0 (jG .i64 (qh .i64 (uM .i64 (cI x2 x4 0) 1000000000) 0) 1)) (.leaf (0,[(.i (q8w (jG .i64 (qh .i64 (uM .i64 (cI x2 x4 0) 1000000000) 0) 1) 999999999)),(.b x0),(.i x1),(.r x2),(.b x3),(.i x4),(.r x5)])) (.leaf (0,[(.i 1),(.b x0),(.i x1),(.r x2),(.b x3),(.i x4),(.r x5)]))) .fail) (.br (inb (qA .i64 x4 1) 232) (.br (inb (qA .i64 x4 1) 232) (.br (ilt 1 x4) (.br (ine (qh .i64 (cI x5 (qA .i64 x4 1) 0) 1) 0) (.br (ilt 0 (jG .i64 (qh .i64 (uM .i64 (cI x2 x4 0) 1000000000) 0) (qh .i64 (cI x5 (qA .i64 x4 1) 0) 1))) (.leaf (0,[(.i (q8w (jG .i64 (qh .i64 (uM .i64 (cI x2 x4 0) 1000000000) 0) (qh .i64 (cI x5 (qA .i64 x4 1) 0) 1)) 999999999)),(.b x0),(.i x1),(.r x2),(.b x3),(.i x4),(.r x5)])) (.leaf (0,[(.i 1),(.b x0),(.i x1),(.r x2),(.b x3),(.i x4),(.r x5)]))) .fail) (.br (ine (cI x5 (qA .i64 x4 1) 0) 0) (.br (ilt 0 (jG .i64 (qh .i64 (uM .i64 (cI x2 x4 0) 1000000000) 0) (cI x5 (qA .i64 x4 1) 0))) (.leaf (0,[(.i (q8w (jG .i64 (qh .i64 (uM .i64 (cI x2 x4 0) 1000000000) 0) (cI x5 (qA .i64 x4 1) 0)) 999999999)),(.b x0),(.i x1),(.r x2),(.b x3),(.i x4),(.r x5)])) (.leaf (0,[(.i 1),(.b x0),(.i x1),(.r x2),(.b x3),(.i x4),(.r x5)]))) .fail)) .fail) .fail))) (.br (inb (qA .i64 x4 1) 232) (.br (inb (qA .i64 x4 1) 232) (.br (ilt (qA .i64 x4 1) 0) (.br (ilt 1 x4) (.br (ilt 0 (jG .i64 (qh .i64 (uM .i64 (cI x2 x4 0) 1000000000) (cI x2 (qA .i64 x4 1) 0)) 1)) (.leaf (0,[(.i (q8w (jG .i64 (qh .i64 (uM .i64 (cI x2 x4 0) 1000000000) (cI x2 (qA .i64 x4 1) 0)) 1) 999999999)),(.b x0),(.i x1),(.r x2),(.b x3),(.i x4),(.r x5)])) (.leaf (0,[(.i 1),(.b x0),(.i x1),(.r x2),(.b x3),(.i x4),(.r x5)]))) .fail) (.br (ile x4 (qA .i64 x4 1)) (.br (ilt 1 x4) (.br (ilt 0 (jG .i64 (qh .i64 (uM .i64 (cI x2 x4 0) 1000000000) (cI x2 (qA .i64 x4 1) 0)) 1)) (.leaf (0,[(.i (q8w (jG .i64 (qh .i64 (uM .i64 (cI x2 x4 0) 1000000000) (cI x2 (qA .i64 x4 1) 0)) 1) 999999999)),(.b x0),(.i x1),(.r x2),(.b x3),(.i x4),(.r x5)])) (.leaf (0,[(.i 1),(.b x0),(.i x1),(.r x2),(.b x3),(.i x4),(.r x5)]))) .fail) (.br (inb (qA .i64 x4 1) 232) (.br (inb (qA .i64 x4 1) 232) (.br (ilt 1 x4) (.br (ine (qh .i64 (cI x5 (qA .i64 x4 1) 0) 1) 0) (.br (ilt 0 (jG .i64 (qh .i64 (uM .i64 (cI x2 x4 0) 1000000000) (cI x2 (qA .i64 x4 1) 0)) (qh .i64 (cI x5 (qA .i64 x4 1) 0) 1))) (.leaf (0,[(.i (q8w (jG .i64 (qh .i64 (uM .i64 (cI x2 x4 0) 1000000000) (cI x2 (qA .i64 x4 1) 0)) (qh .i64 (cI x5 (qA .i64 x4 1) 0) 1)) 999999999)),(.b x0),(.i x1),(.r x2),(.b x3),(.i x4),(.r x5)])) (.leaf (0,[(.i 1),(.b x0),(.i x1),(.r x2),(.b x3),(.i x4),(.r x5)]))) .fail) (.br (ine (cI x5 (qA .i64 x4 1) 0) 0) (.br (ilt 0 (jG .i64 (qh .i64 (uM .i64 (cI x2 x4 0) 1000000000) (cI x2 (qA .i64 x4 1) 0)) (cI x5 (qA .i64 x4 1) 0))) (.leaf (0,[(.i (q8w (jG .i64 (qh .i64 (uM .i64 (cI x2 x4 0) 1000000000) (cI x2 (qA .i64 x4 1) 0)) (cI x5 (qA .i64 x4 1) 0)) 999999999)),(.b x0),(.i x1),(.r x2),(.b x3),(.i x4),(.r x5)])) (.leaf (0,[(.i 1),(.b x0),(.i x1),(.r x2),(.b x3),(.i x4),(.r x5)]))) .fail)) .fail) .fail))) .fail) .fail))) .fail) .fail))):=by kernel_rfl
theorem q5Y(y0:Int)(y1:Int)(y2:Int)(y3:Int)(y4:Bool)(y5:Int)(y6:R)(y7:Bool)(y8:Int)(y9:R):vr [.i y0,.i y1,.i y2,.i y3,.b y4,.i y5,.r y6,.b y7,.i y8,.r y9]=(.br (ilt y3 y8) (.br (inb (qh .i64 y3 y1) 232) (.br (inb (qh .i64 y3 y1) 232) (.br (ilt y3 y8) (.br (inb y3 232) (.br (inb y3 232) (.br (ilt (qA .i64 (qh .i64 (qh .i64 (cI y6 (qh .i64 y3 y1) 0) y2) (uM .i64 y0 (cI y9 y3 0))) (uM .i64 (jG .i64 (qh .i64 (qh .i64 (cI y6 (qh .i64 y3 y1) 0) y2) (uM .i64 y0 (cI y9 y3 0))) 1000000000) 1000000000)) 0) (.br (inb (qh .i64 y3 y1) 232) (.br (inb (qh .i64 y3 y1) 232) (.leaf (0,[(.i y0),(.i y1),(.i (qA .i64 (jG .i64 (qh .i64 (qh .i64 (cI y6 (qh .i64 y3 y1) 0) y2) (uM .i64 y0 (cI y9 y3 0))) 1000000000) 1)),(.i (qh .i64 y3 1)),(.b y4),(.i (qd5 y5 (qh .i64 (qh .i64 y3 y1) 1))),(.r (qbm y6 (qh .i64 y3 y1) 0 [(.i (qh .i64 (qA .i64 (qh .i64 (qh .i64 (cI y6 (qh .i64 y3 y1) 0) y2) (uM .i64 y0 (cI y9 y3 0))) (uM .i64 (jG .i64 (qh .i64 (qh .i64 (cI y6 (qh .i64 y3 y1) 0) y2) (uM .i64 y0 (cI y9 y3 0))) 1000000000) 1000000000)) 1000000000))])),(.b y7),(.i y8),(.r y9)])) .fail) .fail) (.br (inb (qh .i64 y3 y1) 232) (.br (inb (qh .i64 y3 y1) 232) (.leaf (0,[(.i y0),(.i y1),(.i (jG .i64 (qh .i64 (qh .i64 (cI y6 (qh .i64 y3 y1) 0) y2) (uM .i64 y0 (cI y9 y3 0))) 1000000000)),(.i (qh .i64 y3 1)),(.b y4),(.i (qd5 y5 (qh .i64 (qh .i64 y3 y1) 1))),(.r (qbm y6 (qh .i64 y3 y1) 0 [(.i (qA .i64 (qh .i64 (qh .i64 (cI y6 (qh .i64 y3 y1) 0) y2) (uM .i64 y0 (cI y9 y3 0))) (uM .i64 (jG .i64 (qh .i64 (qh .i64 (cI y6 (qh .i64 y3 y1) 0) y2) (uM .i64 y0 (cI y9 y3 0))) 1000000000) 1000000000)))])),(.b y7),(.i y8),(.r y9)])) .fail) .fail)) .fail) .fail) (.br (ilt (qA .i64 (qh .i64 (cI y6 (qh .i64 y3 y1) 0) y2) (uM .i64 (jG .i64 (qh .i64 (cI y6 (qh .i64 y3 y1) 0) y2) 1000000000) 1000000000)) 0) (.br (inb (qh .i64 y3 y1) 232) (.br (inb (qh .i64 y3 y1) 232) (.leaf (0,[(.i y0),(.i y1),(.i (qA .i64 (jG .i64 (qh .i64 (cI y6 (qh .i64 y3 y1) 0) y2) 1000000000) 1)),(.i (qh .i64 y3 1)),(.b y4),(.i (qd5 y5 (qh .i64 (qh .i64 y3 y1) 1))),(.r (qbm y6 (qh .i64 y3 y1) 0 [(.i (qh .i64 (qA .i64 (qh .i64 (cI y6 (qh .i64 y3 y1) 0) y2) (uM .i64 (jG .i64 (qh .i64 (cI y6 (qh .i64 y3 y1) 0) y2) 1000000000) 1000000000)) 1000000000))])),(.b y7),(.i y8),(.r y9)])) .fail) .fail) (.br (inb (qh .i64 y3 y1) 232) (.br (inb (qh .i64 y3 y1) 232) (.leaf (0,[(.i y0),(.i y1),(.i (jG .i64 (qh .i64 (cI y6 (qh .i64 y3 y1) 0) y2) 1000000000)),(.i (qh .i64 y3 1)),(.b y4),(.i (qd5 y5 (qh .i64 (qh .i64 y3 y1) 1))),(.r (qbm y6 (qh .i64 y3 y1) 0 [(.i (qA .i64 (qh .i64 (cI y6 (qh .i64 y3 y1) 0) y2) (uM .i64 (jG .i64 (qh .i64 (cI y6 (qh .i64 y3 y1) 0) y2) 1000000000) 1000000000)))])),(.b y7),(.i y8),(.r y9)])) .fail) .fail))) .fail) .fail) (.br (ine y2 0) (.br (inb (qh .i64 y3 y1) 232) (.br (inb (qh .i64 y3 y1) 232) (.br (ilt y3 y8) (.br (inb y3 232) (.br (inb y3 232) (.br (ilt (qA .i64 (qh .i64 (qh .i64 (cI y6 (qh .i64 y3 y1) 0) y2) (uM .i64 y0 (cI y9 y3 0))) (uM .i64 (jG .i64 (qh .i64 (qh .i64 (cI y6 (qh .i64 y3 y1) 0) y2) (uM .i64 y0 (cI y9 y3 0))) 1000000000) 1000000000)) 0) (.br (inb (qh .i64 y3 y1) 232) (.br (inb (qh .i64 y3 y1) 232) (.leaf (0,[(.i y0),(.i y1),(.i (qA .i64 (jG .i64 (qh .i64 (qh .i64 (cI y6 (qh .i64 y3 y1) 0) y2) (uM .i64 y0 (cI y9 y3 0))) 1000000000) 1)),(.i (qh .i64 y3 1)),(.b y4),(.i (qd5 y5 (qh .i64 (qh .i64 y3 y1) 1))),(.r (qbm y6 (qh .i64 y3 y1) 0 [(.i (qh .i64 (qA .i64 (qh .i64 (qh .i64 (cI y6 (qh .i64 y3 y1) 0) y2) (uM .i64 y0 (cI y9 y3 0))) (uM .i64 (jG .i64 (qh .i64 (qh .i64 (cI y6 (qh .i64 y3 y1) 0) y2) (uM .i64 y0 (cI y9 y3 0))) 1000000000) 1000000000)) 1000000000))])),(.b y7),(.i y8),(.r y9)])) .fail) .fail) (.br (inb (qh .i64 y3 y1) 232) (.br (inb (qh .i64 y3 y1) 232) (.leaf (0,[(.i y0),(.i y1),(.i (jG .i64 (qh .i64 (qh .i64 (cI y6 (qh .i64 y3 y1) 0) y2) (uM .i64 y0 (cI y9 y3 0))) 1000000000)),(.i (qh .i64 y3 1)),(.b y4),(.i (qd5 y5 (qh .i64 (qh .i64 y3 y1) 1))),(.r (qbm y6 (qh .i64 y3 y1) 0 [(.i (qA .i64 (qh .i64 (qh .i64 (cI y6 (qh .i64 y3 y1) 0) y2) (uM .i64 y0 (cI y9 y3 0))) (uM .i64 (jG .i64 (qh .i64 (qh .i64 (cI y6 (qh .i64 y3 y1) 0) y2) (uM .i64 y0 (cI y9 y3 0))) 1000000000) 1000000000)))])),(.b y7),(.i y8),(.r y9)])) .fail) .fail)) .fail) .fail) (.br (ilt (qA .i64 (qh .i64 (cI y6 (qh .i64 y3 y1) 0) y2) (uM .i64 (jG .i64 (qh .i64 (cI y6 (qh .i64 y3 y1) 0) y2) 1000000000) 1000000000)) 0) (.br (inb (qh .i64 y3 y1) 232) (.br (inb (qh .i64 y3 y1) 232) (.leaf (0,[(.i y0),(.i y1),(.i (qA .i64 (jG .i64 (qh .i64 (cI y6 (qh .i64 y3 y1) 0) y2) 1000000000) 1)),(.i (qh .i64 y3 1)),(.b y4),(.i (qd5 y5 (qh .i64 (qh .i64 y3 y1) 1))),(.r (qbm y6 (qh .i64 y3 y1) 0 [(.i (qh .i64 (qA .i64 (qh .i64 (cI y6 (qh .i64 y3 y1) 0) y2) (uM .i64 (jG .i64 (qh .i64 (cI y6 (qh .i64 y3 y1) 0) y2) 1000000000) 1000000000)) 1000000000))])),(.b y7),(.i y8),(.r y9)])) .fail) .fail) (.br (inb (qh .i64 y3 y1) 232) (.br (inb (qh .i64 y3 y1) 232) (.leaf (0,[(.i y0),(.i y1),(.i (jG .i64 (qh .i64 (cI y6 (qh .i64 y3 y1) 0) y2) 1000000000)),(.i (qh .i64 y3 1)),(.b y4),(.i (qd5 y5 (qh .i64 (qh .i64 y3 y1) 1))),(.r (qbm y6 (qh .i64 y3 y1) 0 [(.i (qA .i64 (qh .i64 (cI y6 (qh .i64 y3 y1) 0) y2) (uM .i64 (jG .i64 (qh .i64 (cI y6 (qh .i64 y3 y1) 0) y2) 1000000000) 1000000000)))])),(.b y7),(.i y8),(.r y9)])) .fail) .fail))) .fail) .fail) (.leaf (1,[(.b y4),(.i y5),(.r y6),(.b y7),(.i y8),(.r y9)])))):=by kernel_rfl
theorem qg2(x0:Int)(x1:Int)(x2:Bool)(x3:Int)(x4:R)(x5:Bool)(x6:Int)(x7:R):qG [.i x0,.i x1,.b x2,.i x3,.r x4,.b x5,.i x6,.r x7]=(let r0:TR:=(qg vr [(.i x0),(.i x1),(.i 0),(.i 0),(.b x2),(.i x3),(.r x4),(.b x5),(.i x6),(.r x7)])
 .br (okR r0) (let r1:TR:=(qz [(.b (gB r0 0)),(.i (gI r0 1)),(.r (gR r0 2))])
 .br (okR r1) (.leaf (0,[(.b (gB r1 0)),(.i (gI r1 1)),(.r (gR r1 2)),(.b (gB r0 3)),(.i (gI r0 4)),(.r (gR r0 5))])) .fail) .fail):=by kernel_rfl
theorem qfP(y0:Int)(y1:Int)(y2:Bool)(y3:Int)(y4:R)(y5:Bool)(y6:Int)(y7:R)(y8:Bool)(y9:Int)(y10:R)(y11:Bool)(y12:Int)(y13:R):ja [.i y0,.i y1,.b y2,.i y3,.r y4,.b y5,.i y6,.r y7,.b y8,.i y9,.r y10,.b y11,.i y12,.r y13]=(let r0:TR:=(zo [(.b y11),(.i y12),(.r y13),(.b y5),(.i y6),(.r y7)])
 .br (okR r0) (.br (ile 0 (gI r0 0)) (let r1:TR:=(jp [(.b (gB r0 1)),(.i (gI r0 2)),(.r (gR r0 3)),(.b (gB r0 4)),(.i (gI r0 5)),(.r (gR r0 6))])
 .br (okR r1) (let r2:TR:=(qG [(.i (qA .i64 0 (gI r1 0))),(.i 0),(.b (gB r1 1)),(.i (gI r1 2)),(.r (gR r1 3)),(.b (gB r1 4)),(.i (gI r1 5)),(.r (gR r1 6))])
 .br (okR r2) (.leaf (0,[(.i y0),(.i (qh .i64 y1 (gI r1 0))),(.b y2),(.i y3),(.r y4),(.b (gB r2 3)),(.i (gI r2 4)),(.r (gR r2 5)),(.b y8),(.i y9),(.r y10),(.b (gB r2 0)),(.i (gI r2 1)),(.r (gR r2 2))])) .fail) .fail) (.leaf (1,[(.i y0),(.i y1),(.b y2),(.i y3),(.r y4),(.b (gB r0 4)),(.i (gI r0 5)),(.r (gR r0 6)),(.b y8),(.i y9),(.r y10),(.b (gB r0 1)),(.i (gI r0 2)),(.r (gR r0 3))]))) .fail):=by kernel_rfl
theorem qhp(y0:Int)(y1:Bool)(y2:Int)(y3:R)(y4:Bool)(y5:Int)(y6:R)(y7:Bool)(y8:Int)(y9:R)(y10:Bool)(y11:Int)(y12:R):kL [.i y0,.b y1,.i y2,.r y3,.b y4,.i y5,.r y6,.b y7,.i y8,.r y9,.b y10,.i y11,.r y12]=(.br (ile 0 y0) (.br (q5v 232 232) (.br (q5v 1 232) (.br (q5v y11 232) (.br (q5v 0 y11) (.br (inb y0 232) (.br (inb y0 232) (let r0:TR:=(qz [(.b y10),(.i (qh .i64 y11 1)),(.r (qbm (qgT y12 1 y12 0 (q8w (qs4 y11 0) (qs4 232 1))) 0 0 [(.i (cI y3 y0 0))]))])
 .br (okR r0) (let r1:TR:=(qg ja [(.i y0),(.i 0),(.b y1),(.i y2),(.r y3),(.b y4),(.i y5),(.r y6),(.b y7),(.i y8),(.r y9),(.b (gB r0 0)),(.i (gI r0 1)),(.r (gR r0 2))])
 .br (okR r1) (.br (inb (gI r1 0) 232) (.br (inb (gI r1 0) 232) (.leaf (0,[(.i (qA .i64 (gI r1 0) 1)),(.b (gB r1 2)),(.i (gI r1 3)),(.r (gR r1 4)),(.b (gB r1 5)),(.i (gI r1 6)),(.r (gR r1 7)),(.b (gB r1 8)),(.i (qd5 (gI r1 9) (qh .i64 (gI r1 0) 1))),(.r (qbm (gR r1 10) (gI r1 0) 0 [(.i (gI r1 1))])),(.b (gB r1 11)),(.i (gI r1 12)),(.r (gR r1 13))])) .fail) .fail) .fail) .fail) .fail) .fail) .fail) .fail) .fail) .fail) (.leaf (1,[(.b y1),(.i y2),(.r y3),(.b y4),(.i y5),(.r y6),(.b y7),(.i y8),(.r y9),(.b y10),(.i y11),(.r y12)]))):=by kernel_rfl
theorem qjH(x0:Bool)(x1:Int)(x2:R)(x3:Bool)(x4:Int)(x5:R):we [.b x0,.i x1,.r x2,.b x3,.i x4,.r x5]=(let r0:TR:=(qg kL [(.i (qA .i64 x1 1)),(.b x0),(.i x1),(.r x2),(.b x3),(.i x4),(.r x5),(.b false),(.i 0),(.r (q2n 232 [(.i 0)])),(.b false),(.i 0),(.r (q2n 232 [(.i 0)]))])
 .br (okR r0) (let r1:TR:=(qz [(.b (gB r0 6)),(.i (gI r0 7)),(.r (gR r0 8))])
 .br (okR r1) (.leaf (0,[(.b (gB r0 0)),(.i (gI r0 1)),(.r (gR r0 2)),(.b (gB r0 3)),(.i (gI r0 4)),(.r (gR r0 5)),(.b (gB r1 0)),(.i (gI r1 1)),(.r (gR r1 2)),(.b (gB r0 9)),(.i (gI r0 10)),(.r (gR r0 11))])) .fail) .fail):=by kernel_rfl
theorem qlK(y0:Int)(y1:Int):q0L [.i y0,.i y1]=(.br (ine y1 0) (.br (ine y1 0) (.leaf (0,[(.i y1),(.i (q4Q y0 y1))])) .fail) (.leaf (1,[(.i y0)]))):=by kernel_rfl
theorem qmX(y0:Bool)(y1:Int)(y2:R)(y3:Bool)(y4:Int)(y5:R):q4h [.b y0,.i y1,.r y2,.b y3,.i y4,.r y5]=(.br (ilt 0 y4) (.br (ile y1 1) (.br (ile y4 1) (let r0:TR:=(qg q0L [(.i (cI y2 0 0)),(.i (cI y5 0 0))])
 .br (okR r0) (let r1:TR:=(wJ [(.i (gI r0 0))])
 .br (okR r1) (.leaf (2,[(.s (gS r1 0)),(.i 0)])) .fail) .fail) (let r0:TR:=(we [(.b y0),(.i y1),(.r y2),(.b y3),(.i y4),(.r y5)])
 .br (okR r0) (.leaf (0,[(.b (gB r0 3)),(.i (gI r0 4)),(.r (gR r0 5)),(.b (gB r0 9)),(.i (gI r0 10)),(.r (gR r0 11))])) .fail)) (let r0:TR:=(we [(.b y0),(.i y1),(.r y2),(.b y3),(.i y4),(.r y5)])
 .br (okR r0) (.leaf (0,[(.b (gB r0 3)),(.i (gI r0 4)),(.r (gR r0 5)),(.b (gB r0 9)),(.i (gI r0 10)),(.r (gR r0 11))])) .fail)) (.leaf (1,[(.b y0),(.i y1),(.r y2)]))):=by kernel_rfl
theorem qpn(x0:List UInt8)(x1:List UInt8):q1x [.s x0,.s x1]=(let r0:TR:=(zA [(.r [[(.s x0)],[(.s x1)]])])
 .br (okR r0) (.br (ine (gI r0 0) 0) (.leaf (0,[(.s []),(.i (gI r0 0))])) (let r1:TR:=(zl [(.s x0)])
 .br (okR r1) (let r2:TR:=(zl [(.s x1)])
 .br (okR r2) (let r3:TR:=(qg q4h [(.b (gB r1 0)),(.i (gI r1 1)),(.r (gR r1 2)),(.b (gB r2 0)),(.i (gI r2 1)),(.r (gR r2 2))])
 .br (okR r3) (.br (jIs r3 0) (let r4:TR:=(qH [(.b false),(.i (gI r3 1)),(.r (gR r3 2))])
 .br (okR r4) (.leaf (0,[(.s (gS r4 0)),(.i 0)])) .fail) (.leaf (0,[(.s (gS r3 0)),(.i (gI r3 1))]))) .fail) .fail) .fail)) .fail):=by kernel_rfl
theorem qmt(x0:List UInt8):ve [.s x0]=(let r0:TR:=(qM [(.s x0)])
 .br (okR r0) (let r1:TR:=(qY [(.s (gS r0 0))])
 .br (okR r1) (let r2:TR:=(qY [(.s (gS r0 1))])
 .br (okR r2) (.br (ieq (gI r1 0) 3) (.leaf (0,[(.i 3)])) (.br (ieq (gI r2 0) 3) (.leaf (0,[(.i 3)])) (.br (ine (gI r1 0) 0) (.leaf (0,[(.i (qd5 (gI r1 0) (gI r2 0)))])) (.br (ine (gI r2 0) 0) (.leaf (0,[(.i (qd5 (gI r1 0) (gI r2 0)))])) (.br (not (gB r0 2)) (.leaf (0,[(.i 0)])) (let r3:TR:=(q1s [(.s (gS r0 1)),(.s [49])])
 .br (okR r3) (let r4:TR:=(q1x [(.s (gS r0 0)),(.s (gS r0 1))])
 .br (okR r4) (.br (ine (gI r3 1) 0) (.leaf (0,[(.i 3)])) (.br (ine (gI r4 1) 0) (.leaf (0,[(.i 3)])) (.br (ile (gI r3 0) 0) (.leaf (0,[(.i 3)])) (.br (not (seq (gS r4 0) [49])) (.leaf (0,[(.i 3)])) (.leaf (0,[(.i 0)])))))) .fail) .fail)))))) .fail) .fail) .fail):=by kernel_rfl
theorem q3b(y0:Int)(y1:Int)(y2:List UInt8)(y3:List UInt8)(y4:List UInt8)(y5:R):q1m [.i y0,.i y1,.s y2,.s y3,.s y4,.r y5]=(.br (ilt y1 y0) (.br (inb y1 (qt y5)) (let r0:TR:=(ve [(.s (cS y5 y1 0))])
 .br (okR r0) (.br (ine (gI r0 0) 0) (.leaf (2,[(.i (gI r0 0))])) (.leaf (0,[(.i y0),(.i (qh .i64 y1 1)),(.s y2),(.s y3),(.s y4),(.r y5)]))) .fail) .fail) (.leaf (1,[(.s y2),(.s y3),(.s y4)]))):=by kernel_rfl
theorem qmJ(x0:List UInt8)(x1:List UInt8)(x2:List UInt8):jB [.s x0,.s x1,.s x2]=(let r0:TR:=(qg q1m [(.i (qt [[(.s x0)],[(.s x1)],[(.s x2)]])),(.i 0),(.s x0),(.s x1),(.s x2),(.r [[(.s x0)],[(.s x1)],[(.s x2)]])])
 .br (okR r0) (.br (jIs r0 0) (.br (inb 0 (ql (gS r0 2))) (.br (ieq (sat (gS r0 2) 0) 45) (.leaf (0,[(.i 2)])) (.leaf (0,[(.i 0)]))) .fail) (.leaf (0,[(.i (gI r0 0))]))) .fail):=by kernel_rfl
theorem qdQ(y0:R)(y1:R)(y2:Int)(y3:Int):q2w [.r y0,.r y1,.i y2,.i y3]=(.br (ilt y3 y2) (.br (inb y3 (qt y1)) (let r0:TR:=(jB [(.s (cS y1 y3 0)),(.s (cS y1 y3 1)),(.s (cS y1 y3 2))])
 .br (okR r0) (.br (ine (gI r0 0) 0) (.leaf (2,[(.i (gI r0 0))])) (.leaf (0,[(.r y0),(.r y1),(.i y2),(.i (qh .i64 y3 1))]))) .fail) .fail) (.leaf (1,[(.r y0)]))):=by kernel_rfl
theorem qp4(x0:R):z7 [.r x0]=(.br (ilt 64 (qt x0)) (.leaf (0,[(.i 5)])) (let r0:TR:=(qg q2w [(.r x0),(.r x0),(.i (qt x0)),(.i 0)])
 .br (okR r0) (.br (jIs r0 0) (.br (ieq (qt (gR r0 0)) 0) (.leaf (0,[(.i 13)])) (.leaf (0,[(.i 0)]))) (.leaf (0,[(.i (gI r0 0))]))) .fail)):=by kernel_rfl
theorem qmV(x0:List UInt8)(x1:List UInt8):jH [.s x0,.s x1]=(.br (ilt 9 (ql x0)) (.leaf (0,[(.i 0),(.i 0),(.b false)])) (.br (ilt 9 (ql x1)) (.leaf (0,[(.i 0),(.i 0),(.b false)])) (.br (okR (v6 [(.s x0)])) (.br (okR (v6 [(.s x1)])) (.leaf (0,[(.i (gI (v6 [(.s x0)]) 0)),(.i (gI (v6 [(.s x1)]) 0)),(.b true)])) .fail) .fail))):=by kernel_rfl
theorem qkI(x0:Int):ut [.i x0]=(.br (okR (wJ [(.i x0)])) (.leaf (0,[(.s (gS (wJ [(.i x0)]) 0)),(.i 0)])) .fail):=by kernel_rfl
theorem qdo(x0:Bool)(x1:Int)(x2:R):zz [.b x0,.i x1,.r x2]=(let r0:TR:=(qH [(.b x0),(.i x1),(.r x2)])
 .br (okR r0) (let r1:TR:=(qY [(.s (gS r0 0))])
 .br (okR r1) (.br (ine (gI r1 0) 0) (.leaf (0,[(.s []),(.i (gI r1 0)),(.b (gB r0 1)),(.i (gI r0 2)),(.r (gR r0 3))])) (.leaf (0,[(.s (gS r0 0)),(.i 0),(.b (gB r0 1)),(.i (gI r0 2)),(.r (gR r0 3))]))) .fail) .fail):=by kernel_rfl
theorem qgN(x0:Bool)(x1:Int)(x2:R)(x3:Bool)(x4:Int)(x5:R):zJ [.b x0,.i x1,.r x2,.b x3,.i x4,.r x5]=(.br (beq x0 x3) (let r0:TR:=(qG [(.i 1),(.i 0),(.b x0),(.i x1),(.r x2),(.b x3),(.i x4),(.r x5)])
 .br (okR r0) (.leaf (0,[(.b (gB r0 0)),(.i (gI r0 1)),(.r (gR r0 2)),(.b (gB r0 3)),(.i (gI r0 4)),(.r (gR r0 5))])) .fail) (let r0:TR:=(zo [(.b x0),(.i x1),(.r x2),(.b x3),(.i x4),(.r x5)])
 .br (okR r0) (.br (ile 0 (gI r0 0)) (let r1:TR:=(qG [(.i (-1)),(.i 0),(.b (gB r0 1)),(.i (gI r0 2)),(.r (gR r0 3)),(.b (gB r0 4)),(.i (gI r0 5)),(.r (gR r0 6))])
 .br (okR r1) (.leaf (0,[(.b (gB r1 0)),(.i (gI r1 1)),(.r (gR r1 2)),(.b (gB r1 3)),(.i (gI r1 4)),(.r (gR r1 5))])) .fail) (let r1:TR:=(qG [(.i (-1)),(.i 0),(.b (gB r0 4)),(.i (gI r0 5)),(.r (gR r0 6)),(.b (gB r0 1)),(.i (gI r0 2)),(.r (gR r0 3))])
 .br (okR r1) (.leaf (0,[(.b (gB r1 0)),(.i (gI r1 1)),(.r (gR r1 2)),(.b (gB r0 4)),(.i (gI r0 5)),(.r (gR r0 6))])) .fail)) .fail)):=by kernel_rfl
theorem qaj(y0:R)(y1:Int)(y2:Int)(y3:Bool)(y4:Int)(y5:R):q4p [.r y0,.i y1,.i y2,.b y3,.i y4,.r y5]=(.br (ilt y2 y1) (.br (inb y2 (qt y0)) (let r0:TR:=(zl [(.s (cS y0 y2 0))])
 .br (okR r0) (let r1:TR:=(zJ [(.b y3),(.i y4),(.r y5),(.b (gB r0 0)),(.i (gI r0 1)),(.r (gR r0 2))])
 .br (okR r1) (.leaf (0,[(.r y0),(.i y1),(.i (qh .i64 y2 1)),(.b (gB r1 0)),(.i (gI r1 1)),(.r (gR r1 2))])) .fail) .fail) .fail) (.leaf (1,[(.b y3),(.i y4),(.r y5)]))):=by kernel_rfl
theorem qqm(x0:R):q8X [.r x0]=(let r0:TR:=(qg q4p [(.r x0),(.i (qt x0)),(.i 0),(.b false),(.i 0),(.r (q2n 232 [(.i 0)]))])
 .br (okR r0) (let r1:TR:=(zz [(.b (gB r0 0)),(.i (gI r0 1)),(.r (gR r0 2))])
 .br (okR r1) (.leaf (0,[(.s (gS r1 0)),(.i (gI r1 1))])) .fail) .fail):=by kernel_rfl
theorem qq0(x0:List UInt8)(x1:List UInt8):q1n [.s x0,.s x1]=(let r0:TR:=(zA [(.r [[(.s x0)],[(.s x1)]])])
 .br (okR r0) (.br (ine (gI r0 0) 0) (.leaf (0,[(.s []),(.i (gI r0 0))])) (let r1:TR:=(jH [(.s x0),(.s x1)])
 .br (okR r1) (.br (gB r1 2) (let r2:TR:=(ut [(.i (qh .i64 (gI r1 0) (gI r1 1)))])
 .br (okR r2) (.leaf (0,[(.s (gS r2 0)),(.i (gI r2 1))])) .fail) (let r2:TR:=(q8X [(.r [[(.s x0)],[(.s x1)]])])
 .br (okR r2) (.leaf (0,[(.s (gS r2 0)),(.i (gI r2 1))])) .fail)) .fail)) .fail):=by kernel_rfl
theorem qio(x0:List UInt8):q0s [.s x0]=(let r0:TR:=(jK [(.s x0)])
 .br (okR r0) (.br (ieq (gI r0 0) 0) (.leaf (0,[(.s x0)])) (.br (ieq (gI r0 0) 1) (.br (ile ((ql [45])+(ql x0)) 140737488355328) (.leaf (0,[(.s (qaw [45] x0))])) .fail) (.br (q5v (ql x0) (ql x0)) (.br (q5v 1 (ql x0)) (.leaf (0,[(.s (q9J x0 1 (ql x0)))])) .fail) .fail))) .fail):=by kernel_rfl
theorem qqa(x0:List UInt8)(x1:List UInt8):q5o [.s x0,.s x1]=(let r0:TR:=(zA [(.r [[(.s x0)],[(.s x1)]])])
 .br (okR r0) (.br (ine (gI r0 0) 0) (.leaf (0,[(.s []),(.i (gI r0 0))])) (let r1:TR:=(q0s [(.s x1)])
 .br (okR r1) (let r2:TR:=(q1n [(.s x0),(.s (gS r1 0))])
 .br (okR r2) (.leaf (0,[(.s (gS r2 0)),(.i (gI r2 1))])) .fail) .fail)) .fail):=by kernel_rfl
theorem q97(x0:List UInt8)(x1:List UInt8)(x2:Int):wg [.s x0,.s x1,.i x2]=(.br (ine x2 0) (.leaf (0,[(.s [48]),(.i x2)])) (let r0:TR:=(q5o [(.s x0),(.s x1)])
 .br (okR r0) (.br (ine (gI r0 1) 0) (.leaf (0,[(.s [48]),(.i (gI r0 1))])) (.leaf (0,[(.s (gS r0 0)),(.i (gI r0 1))]))) .fail)):=by kernel_rfl
theorem qj6(x0:List UInt8)(x1:List UInt8)(x2:Int):zg [.s x0,.s x1,.i x2]=(let r0:TR:=(wg [(.s x0),(.s x1),(.i x2)])
 .br (okR r0) (.leaf (0,[(.s (gS r0 0)),(.i (gI r0 1))])) .fail):=by kernel_rfl
theorem qdH(y0:Int)(y1:Int)(y2:Bool)(y3:Int)(y4:R)(y5:Bool)(y6:Int)(y7:R)(y8:Bool)(y9:Int)(y10:R):jy [.i y0,.i y1,.b y2,.i y3,.r y4,.b y5,.i y6,.r y7,.b y8,.i y9,.r y10]=(.br (ilt y1 y0) (.br (inb y1 232) (.br (inb y1 232) (let r0:TR:=(qG [(.i (cI y7 y1 0)),(.i y1),(.b y8),(.i y9),(.r y10),(.b y2),(.i y3),(.r y4)])
 .br (okR r0) (.leaf (0,[(.i y0),(.i (qh .i64 y1 1)),(.b (gB r0 3)),(.i (gI r0 4)),(.r (gR r0 5)),(.b y5),(.i y6),(.r y7),(.b (gB r0 0)),(.i (gI r0 1)),(.r (gR r0 2))])) .fail) .fail) .fail) (.leaf (1,[(.b y2),(.i y3),(.r y4),(.b y5),(.i y6),(.r y7),(.b y8),(.i y9),(.r y10)]))):=by kernel_rfl
theorem qfN(x0:Bool)(x1:Int)(x2:R)(x3:Bool)(x4:Int)(x5:R):ud [.b x0,.i x1,.r x2,.b x3,.i x4,.r x5]=(let r0:TR:=(qg jy [(.i x4),(.i 0),(.b x0),(.i x1),(.r x2),(.b x3),(.i x4),(.r x5),(.b (not (beq x0 x3))),(.i 0),(.r (q2n 232 [(.i 0)]))])
 .br (okR r0) (.leaf (0,[(.b (gB r0 0)),(.i (gI r0 1)),(.r (gR r0 2)),(.b (gB r0 3)),(.i (gI r0 4)),(.r (gR r0 5)),(.b (gB r0 6)),(.i (gI r0 7)),(.r (gR r0 8))])) .fail):=by kernel_rfl
theorem qpD(x0:List UInt8)(x1:List UInt8):q3n [.s x0,.s x1]=(let r0:TR:=(zA [(.r [[(.s x0)],[(.s x1)]])])
 .br (okR r0) (.br (ine (gI r0 0) 0) (.leaf (0,[(.s []),(.i (gI r0 0))])) (let r1:TR:=(jH [(.s x0),(.s x1)])
 .br (okR r1) (.br (gB r1 2) (let r2:TR:=(ut [(.i (uM .i64 (gI r1 0) (gI r1 1)))])
 .br (okR r2) (.leaf (0,[(.s (gS r2 0)),(.i (gI r2 1))])) .fail) (let r2:TR:=(zl [(.s x0)])
 .br (okR r2) (let r3:TR:=(zl [(.s x1)])
 .br (okR r3) (let r4:TR:=(ud [(.b (gB r2 0)),(.i (gI r2 1)),(.r (gR r2 2)),(.b (gB r3 0)),(.i (gI r3 1)),(.r (gR r3 2))])
 .br (okR r4) (let r5:TR:=(zz [(.b (gB r4 6)),(.i (gI r4 7)),(.r (gR r4 8))])
 .br (okR r5) (.leaf (0,[(.s (gS r5 0)),(.i (gI r5 1))])) .fail) .fail) .fail) .fail)) .fail)) .fail):=by kernel_rfl
theorem q99(x0:List UInt8)(x1:List UInt8)(x2:Int):zw [.s x0,.s x1,.i x2]=(.br (ine x2 0) (.leaf (0,[(.s [48]),(.i x2)])) (let r0:TR:=(q3n [(.s x0),(.s x1)])
 .br (okR r0) (.br (ine (gI r0 1) 0) (.leaf (0,[(.s [48]),(.i (gI r0 1))])) (.leaf (0,[(.s (gS r0 0)),(.i (gI r0 1))]))) .fail)):=by kernel_rfl
theorem q8p(y0:List UInt8)(y1:R)(y2:Int)(y3:Int)(y4:Int):j8 [.s y0,.r y1,.i y2,.i y3,.i y4]=(.br (ilt y3 y2) (.br (inb y3 (qt y1)) (let r0:TR:=(zw [(.s y0),(.s (cS y1 y3 0)),(.i y4)])
 .br (okR r0) (.leaf (0,[(.s (gS r0 0)),(.r y1),(.i y2),(.i (qh .i64 y3 1)),(.i (gI r0 1))])) .fail) .fail) (.leaf (1,[(.s y0),(.i y4)]))):=by kernel_rfl
theorem qih(x0:R)(x1:Int):qf [.r x0,.i x1]=(let r0:TR:=(qg j8 [(.s [49]),(.r x0),(.i (qt x0)),(.i 0),(.i x1)])
 .br (okR r0) (.leaf (0,[(.s (gS r0 0)),(.i (gI r0 1))])) .fail):=by kernel_rfl
theorem qmQ(x0:List UInt8)(x1:List UInt8)(x2:List UInt8)(x3:List UInt8)(x4:Int):q1S [.s x0,.s x1,.s x2,.s x3,.i x4]=(let r0:TR:=(qf [(.r [[(.s x0)],[(.s x3)]]),(.i x4)])
 .br (okR r0) (let r1:TR:=(qf [(.r [[(.s x2)],[(.s x1)]]),(.i (gI r0 1))])
 .br (okR r1) (let r2:TR:=(zg [(.s (gS r0 0)),(.s (gS r1 0)),(.i (gI r1 1))])
 .br (okR r2) (let r3:TR:=(qf [(.r [[(.s x1)],[(.s x3)]]),(.i (gI r2 1))])
 .br (okR r3) (.leaf (0,[(.s (gS r2 0)),(.s (gS r3 0)),(.i (gI r3 1))])) .fail) .fail) .fail) .fail):=by kernel_rfl
theorem qaN(y0:R)(y1:Int)(y2:Int):q0r [.r y0,.i y1,.i y2]=(.br (ilt y2 y1) (.br (inb y2 (qt y0)) (let r0:TR:=(ve [(.s (cS y0 y2 0))])
 .br (okR r0) (.br (ine (gI r0 0) 0) (.leaf (2,[(.i (gI r0 0))])) (.leaf (0,[(.r y0),(.i y1),(.i (qh .i64 y2 1))]))) .fail) .fail) (.leaf (1,[]))):=by kernel_rfl
theorem qm4(x0:R):qP [.r x0]=(let r0:TR:=(qg q0r [(.r x0),(.i (qt x0)),(.i 0)])
 .br (okR r0) (.br (jIs r0 0) (.leaf (0,[(.i 0)])) (.leaf (0,[(.i (gI r0 0))]))) .fail):=by kernel_rfl
theorem qeD(x0:List UInt8)(x1:List UInt8):ym [.s x0,.s x1]=(let r0:TR:=(qF [(.s x0),(.s x1)])
 .br (okR r0) (.leaf (0,[(.b (gB r0 0))])) .fail):=by kernel_rfl
theorem qkW(x0:List UInt8)(x1:List UInt8):q0M [.s x0,.s x1]=(.br (seq x1 [49]) (.leaf (0,[(.s x0)])) (.br (ile ((ql x0)+(ql [47])) 140737488355328) (.br (ile ((ql (qaw x0 [47]))+(ql x1)) 140737488355328) (.leaf (0,[(.s (qaw (qaw x0 [47]) x1))])) .fail) .fail)):=by kernel_rfl
theorem qlv(x0:List UInt8)(x1:List UInt8):q2y [.s x0,.s x1]=(let r0:TR:=(zA [(.r [[(.s x0)],[(.s x1)]])])
 .br (okR r0) (.br (ine (gI r0 0) 0) (.leaf (0,[(.s []),(.s []),(.i (gI r0 0))])) (.br (seq x1 [48]) (.leaf (0,[(.s []),(.s []),(.i 10)])) (let r1:TR:=(jH [(.s x0),(.s x1)])
 .br (okR r1) (.br (gB r1 2) (.br (ine (gI r1 1) 0) (.br (ine (gI r1 1) 0) (.br (ine (q4Q (gI r1 0) (gI r1 1)) 0) (.br (not (beq (ilt (q4Q (gI r1 0) (gI r1 1)) 0) (ilt (gI r1 1) 0))) (let r2:TR:=(wJ [(.i (qA .i64 (jG .i64 (gI r1 0) (gI r1 1)) 1))])
 .br (okR r2) (let r3:TR:=(wJ [(.i (qh .i64 (q4Q (gI r1 0) (gI r1 1)) (gI r1 1)))])
 .br (okR r3) (.leaf (0,[(.s (gS r2 0)),(.s (gS r3 0)),(.i 0)])) .fail) .fail) (let r2:TR:=(wJ [(.i (jG .i64 (gI r1 0) (gI r1 1)))])
 .br (okR r2) (let r3:TR:=(wJ [(.i (q4Q (gI r1 0) (gI r1 1)))])
 .br (okR r3) (.leaf (0,[(.s (gS r2 0)),(.s (gS r3 0)),(.i 0)])) .fail) .fail)) (let r2:TR:=(wJ [(.i (jG .i64 (gI r1 0) (gI r1 1)))])
 .br (okR r2) (let r3:TR:=(wJ [(.i (q4Q (gI r1 0) (gI r1 1)))])
 .br (okR r3) (.leaf (0,[(.s (gS r2 0)),(.s (gS r3 0)),(.i 0)])) .fail) .fail)) .fail) .fail) (let r2:TR:=(zl [(.s x0)])
 .br (okR r2) (let r3:TR:=(zl [(.s x1)])
 .br (okR r3) (let r4:TR:=(we [(.b (gB r2 0)),(.i (gI r2 1)),(.r (gR r2 2)),(.b (gB r3 0)),(.i (gI r3 1)),(.r (gR r3 2))])
 .br (okR r4) (.br (ilt 0 (gI r4 10)) (.br (not (beq (gB r4 0) (gB r4 3))) (let r5:TR:=(zJ [(.b true),(.i (gI r4 7)),(.r (gR r4 8)),(.b true),(.i 1),(.r (qbm (q2n 232 [(.i 0)]) 0 0 [(.i 1)]))])
 .br (okR r5) (let r6:TR:=(zJ [(.b (gB r4 0)),(.i (gI r4 10)),(.r (gR r4 11)),(.b (gB r4 3)),(.i (gI r4 4)),(.r (gR r4 5))])
 .br (okR r6) (let r7:TR:=(qH [(.b (gB r5 0)),(.i (gI r5 1)),(.r (gR r5 2))])
 .br (okR r7) (let r8:TR:=(qH [(.b (gB r6 0)),(.i (gI r6 1)),(.r (gR r6 2))])
 .br (okR r8) (.leaf (0,[(.s (gS r7 0)),(.s (gS r8 0)),(.i 0)])) .fail) .fail) .fail) .fail) (let r5:TR:=(qH [(.b (not (beq (gB r4 0) (gB r4 3)))),(.i (gI r4 7)),(.r (gR r4 8))])
 .br (okR r5) (let r6:TR:=(qH [(.b (gB r4 0)),(.i (gI r4 10)),(.r (gR r4 11))])
 .br (okR r6) (.leaf (0,[(.s (gS r5 0)),(.s (gS r6 0)),(.i 0)])) .fail) .fail)) (let r5:TR:=(qH [(.b (not (beq (gB r4 0) (gB r4 3)))),(.i (gI r4 7)),(.r (gR r4 8))])
 .br (okR r5) (let r6:TR:=(qH [(.b (gB r4 0)),(.i (gI r4 10)),(.r (gR r4 11))])
 .br (okR r6) (.leaf (0,[(.s (gS r5 0)),(.s (gS r6 0)),(.i 0)])) .fail) .fail)) .fail) .fail) .fail)) .fail))) .fail):=by kernel_rfl
theorem qqn(x0:List UInt8)(x1:List UInt8):q57 [.s x0,.s x1]=(let r0:TR:=(q2y [(.s x0),(.s x1)])
 .br (okR r0) (.br (ine (gI r0 2) 0) (.leaf (0,[(.s []),(.i (gI r0 2))])) (let r1:TR:=(qY [(.s (gS r0 0))])
 .br (okR r1) (.br (ine (gI r1 0) 0) (.leaf (0,[(.s []),(.i (gI r1 0))])) (.leaf (0,[(.s (gS r0 0)),(.i 0)]))) .fail)) .fail):=by kernel_rfl
theorem q94(x0:List UInt8)(x1:List UInt8)(x2:Int):wl [.s x0,.s x1,.i x2]=(.br (ine x2 0) (.leaf (0,[(.s [48]),(.i x2)])) (let r0:TR:=(q1x [(.s x0),(.s x1)])
 .br (okR r0) (.br (ine (gI r0 1) 0) (.leaf (0,[(.s [48]),(.i (gI r0 1))])) (.leaf (0,[(.s (gS r0 0)),(.i (gI r0 1))]))) .fail)):=by kernel_rfl
theorem q95(x0:List UInt8)(x1:List UInt8)(x2:Int):qO [.s x0,.s x1,.i x2]=(.br (ine x2 0) (.leaf (0,[(.s [48]),(.i x2)])) (let r0:TR:=(q57 [(.s x0),(.s x1)])
 .br (okR r0) (.br (ine (gI r0 1) 0) (.leaf (0,[(.s [48]),(.i (gI r0 1))])) (.leaf (0,[(.s (gS r0 0)),(.i (gI r0 1))]))) .fail)):=by kernel_rfl
theorem qeI(x0:List UInt8)(x1:List UInt8)(x2:Int):qQ [.s x0,.s x1,.i x2]=(let r0:TR:=(wl [(.s x0),(.s x1),(.i x2)])
 .br (okR r0) (let r1:TR:=(ym [(.s x1),(.s [45])])
 .br (okR r1) (.br (gB r1 0) (let r2:TR:=(zg [(.s [48]),(.s (gS r0 0)),(.i (gI r0 1))])
 .br (okR r2) (.br (ine (gI r2 1) 0) (.leaf (0,[(.s []),(.i (gI r2 1))])) (let r3:TR:=(qO [(.s x0),(.s (gS r2 0)),(.i (gI r2 1))])
 .br (okR r3) (let r4:TR:=(qO [(.s x1),(.s (gS r2 0)),(.i (gI r3 1))])
 .br (okR r4) (let r5:TR:=(q0M [(.s (gS r3 0)),(.s (gS r4 0))])
 .br (okR r5) (.leaf (0,[(.s (gS r5 0)),(.i (gI r4 1))])) .fail) .fail) .fail)) .fail) (.br (ine (gI r0 1) 0) (.leaf (0,[(.s []),(.i (gI r0 1))])) (let r2:TR:=(qO [(.s x0),(.s (gS r0 0)),(.i (gI r0 1))])
 .br (okR r2) (let r3:TR:=(qO [(.s x1),(.s (gS r0 0)),(.i (gI r2 1))])
 .br (okR r3) (let r4:TR:=(q0M [(.s (gS r2 0)),(.s (gS r3 0))])
 .br (okR r4) (.leaf (0,[(.s (gS r4 0)),(.i (gI r3 1))])) .fail) .fail) .fail))) .fail) .fail):=by kernel_rfl
theorem qas(x0:List UInt8)(x1:List UInt8):wM [.s x0,.s x1]=(let r0:TR:=(qP [(.r [[(.s x0)],[(.s x1)]])])
 .br (okR r0) (.br (ine (gI r0 0) 0) (.leaf (0,[(.s []),(.i (gI r0 0))])) (let r1:TR:=(qM [(.s x0)])
 .br (okR r1) (let r2:TR:=(qM [(.s x1)])
 .br (okR r2) (let r3:TR:=(q1S [(.s (gS r1 0)),(.s (gS r1 1)),(.s (gS r2 0)),(.s (gS r2 1)),(.i 0)])
 .br (okR r3) (.br (ine (gI r3 2) 0) (.leaf (0,[(.s []),(.i (gI r3 2))])) (.br (seq (gS r3 1) [48]) (.leaf (0,[(.s []),(.i 10)])) (let r4:TR:=(qQ [(.s (gS r3 0)),(.s (gS r3 1)),(.i (gI r3 2))])
 .br (okR r4) (.leaf (0,[(.s (gS r4 0)),(.i (gI r4 1))])) .fail))) .fail) .fail) .fail)) .fail):=by kernel_rfl
theorem qqo(x0:List UInt8)(x1:List UInt8):q56 [.s x0,.s x1]=(let r0:TR:=(wM [(.s x0),(.s x1)])
 .br (okR r0) (.leaf (0,[(.s (gS r0 0)),(.i (gI r0 1))])) .fail):=by kernel_rfl
theorem q9a(x0:List UInt8)(x1:List UInt8)(x2:Int):wj [.s x0,.s x1,.i x2]=(.br (ine x2 0) (.leaf (0,[(.s [48]),(.i x2)])) (let r0:TR:=(q56 [(.s x0),(.s x1)])
 .br (okR r0) (.br (ine (gI r0 1) 0) (.leaf (0,[(.s [48]),(.i (gI r0 1))])) (.leaf (0,[(.s (gS r0 0)),(.i (gI r0 1))]))) .fail)):=by kernel_rfl
theorem qif(x0:List UInt8)(x1:List UInt8)(x2:Int):qE [.s x0,.s x1,.i x2]=(let r0:TR:=(wj [(.s x0),(.s x1),(.i x2)])
 .br (okR r0) (.leaf (0,[(.s (gS r0 0)),(.i (gI r0 1))])) .fail):=by kernel_rfl
theorem qhj(x0:List UInt8)(x1:List UInt8)(x2:List UInt8)(x3:List UInt8)(x4:Int):zK [.s x0,.s x1,.s x2,.s x3,.i x4]=(let r0:TR:=(qE [(.s x0),(.s x2),(.i x4)])
 .br (okR r0) (let r1:TR:=(qE [(.s x1),(.s x3),(.i (gI r0 1))])
 .br (okR r1) (.leaf (0,[(.s (gS r0 0)),(.s (gS r1 0)),(.i (gI r1 1))])) .fail) .fail):=by kernel_rfl
theorem q92(x0:List UInt8)(x1:List UInt8)(x2:Int):wh [.s x0,.s x1,.i x2]=(.br (ine x2 0) (.leaf (0,[(.s [48]),(.i x2)])) (let r0:TR:=(q1n [(.s x0),(.s x1)])
 .br (okR r0) (.br (ine (gI r0 1) 0) (.leaf (0,[(.s [48]),(.i (gI r0 1))])) (.leaf (0,[(.s (gS r0 0)),(.i (gI r0 1))]))) .fail)):=by kernel_rfl
theorem qie(x0:List UInt8)(x1:List UInt8)(x2:Int):jk [.s x0,.s x1,.i x2]=(let r0:TR:=(wh [(.s x0),(.s x1),(.i x2)])
 .br (okR r0) (.leaf (0,[(.s (gS r0 0)),(.i (gI r0 1))])) .fail):=by kernel_rfl
theorem qmZ(x0:List UInt8)(x1:List UInt8)(x2:List UInt8)(x3:List UInt8)(x4:Int):q21 [.s x0,.s x1,.s x2,.s x3,.i x4]=(let r0:TR:=(qf [(.r [[(.s x0)],[(.s x3)]]),(.i x4)])
 .br (okR r0) (let r1:TR:=(qf [(.r [[(.s x2)],[(.s x1)]]),(.i (gI r0 1))])
 .br (okR r1) (let r2:TR:=(jk [(.s (gS r0 0)),(.s (gS r1 0)),(.i (gI r1 1))])
 .br (okR r2) (let r3:TR:=(qf [(.r [[(.s x1)],[(.s x3)]]),(.i (gI r2 1))])
 .br (okR r3) (.leaf (0,[(.s (gS r2 0)),(.s (gS r3 0)),(.i (gI r3 1))])) .fail) .fail) .fail) .fail):=by kernel_rfl
theorem qa8(x0:List UInt8)(x1:List UInt8):wO [.s x0,.s x1]=(let r0:TR:=(qP [(.r [[(.s x0)],[(.s x1)]])])
 .br (okR r0) (.br (ine (gI r0 0) 0) (.leaf (0,[(.s []),(.i (gI r0 0))])) (let r1:TR:=(qM [(.s x0)])
 .br (okR r1) (let r2:TR:=(qM [(.s x1)])
 .br (okR r2) (let r3:TR:=(q21 [(.s (gS r1 0)),(.s (gS r1 1)),(.s (gS r2 0)),(.s (gS r2 1)),(.i 0)])
 .br (okR r3) (.br (ine (gI r3 2) 0) (.leaf (0,[(.s []),(.i (gI r3 2))])) (.br (seq (gS r3 1) [48]) (.leaf (0,[(.s []),(.i 10)])) (let r4:TR:=(qQ [(.s (gS r3 0)),(.s (gS r3 1)),(.i (gI r3 2))])
 .br (okR r4) (.leaf (0,[(.s (gS r4 0)),(.i (gI r4 1))])) .fail))) .fail) .fail) .fail)) .fail):=by kernel_rfl
theorem qqd(x0:List UInt8)(x1:List UInt8):q5k [.s x0,.s x1]=(let r0:TR:=(wO [(.s x0),(.s x1)])
 .br (okR r0) (.leaf (0,[(.s (gS r0 0)),(.i (gI r0 1))])) .fail):=by kernel_rfl
theorem q9c(x0:List UInt8)(x1:List UInt8)(x2:Int):wk [.s x0,.s x1,.i x2]=(.br (ine x2 0) (.leaf (0,[(.s [48]),(.i x2)])) (let r0:TR:=(q5k [(.s x0),(.s x1)])
 .br (okR r0) (.br (ine (gI r0 1) 0) (.leaf (0,[(.s [48]),(.i (gI r0 1))])) (.leaf (0,[(.s (gS r0 0)),(.i (gI r0 1))]))) .fail)):=by kernel_rfl
theorem qiY(x0:List UInt8)(x1:List UInt8)(x2:Int):qV [.s x0,.s x1,.i x2]=(let r0:TR:=(wk [(.s x0),(.s x1),(.i x2)])
 .br (okR r0) (.leaf (0,[(.s (gS r0 0)),(.i (gI r0 1))])) .fail):=by kernel_rfl
theorem qmD(x0:List UInt8)(x1:List UInt8)(x2:List UInt8)(x3:List UInt8)(x4:Int):q1X [.s x0,.s x1,.s x2,.s x3,.i x4]=(let r0:TR:=(qf [(.r [[(.s x0)],[(.s x2)]]),(.i x4)])
 .br (okR r0) (let r1:TR:=(qf [(.r [[(.s x1)],[(.s x3)]]),(.i (gI r0 1))])
 .br (okR r1) (.leaf (0,[(.s (gS r0 0)),(.s (gS r1 0)),(.i (gI r1 1))])) .fail) .fail):=by kernel_rfl
theorem qat(x0:List UInt8)(x1:List UInt8):wE [.s x0,.s x1]=(let r0:TR:=(qP [(.r [[(.s x0)],[(.s x1)]])])
 .br (okR r0) (.br (ine (gI r0 0) 0) (.leaf (0,[(.s []),(.i (gI r0 0))])) (let r1:TR:=(qM [(.s x0)])
 .br (okR r1) (let r2:TR:=(qM [(.s x1)])
 .br (okR r2) (let r3:TR:=(q1X [(.s (gS r1 0)),(.s (gS r1 1)),(.s (gS r2 0)),(.s (gS r2 1)),(.i 0)])
 .br (okR r3) (.br (ine (gI r3 2) 0) (.leaf (0,[(.s []),(.i (gI r3 2))])) (.br (seq (gS r3 1) [48]) (.leaf (0,[(.s []),(.i 10)])) (let r4:TR:=(qQ [(.s (gS r3 0)),(.s (gS r3 1)),(.i (gI r3 2))])
 .br (okR r4) (.leaf (0,[(.s (gS r4 0)),(.i (gI r4 1))])) .fail))) .fail) .fail) .fail)) .fail):=by kernel_rfl
theorem qpM(x0:List UInt8)(x1:List UInt8):q5p [.s x0,.s x1]=(let r0:TR:=(wE [(.s x0),(.s x1)])
 .br (okR r0) (.leaf (0,[(.s (gS r0 0)),(.i (gI r0 1))])) .fail):=by kernel_rfl
theorem q93(x0:List UInt8)(x1:List UInt8)(x2:Int):wi [.s x0,.s x1,.i x2]=(.br (ine x2 0) (.leaf (0,[(.s [48]),(.i x2)])) (let r0:TR:=(q5p [(.s x0),(.s x1)])
 .br (okR r0) (.br (ine (gI r0 1) 0) (.leaf (0,[(.s [48]),(.i (gI r0 1))])) (.leaf (0,[(.s (gS r0 0)),(.i (gI r0 1))]))) .fail)):=by kernel_rfl
theorem qiv(x0:List UInt8)(x1:List UInt8)(x2:Int):qI [.s x0,.s x1,.i x2]=(let r0:TR:=(wi [(.s x0),(.s x1),(.i x2)])
 .br (okR r0) (.leaf (0,[(.s (gS r0 0)),(.i (gI r0 1))])) .fail):=by kernel_rfl
theorem qiX(x0:List UInt8)(x1:List UInt8)(x2:List UInt8)(x3:List UInt8)(x4:Int):zr [.s x0,.s x1,.s x2,.s x3,.i x4]=(let r0:TR:=(qI [(.s x0),(.s x2),(.i x4)])
 .br (okR r0) (let r1:TR:=(qI [(.s x1),(.s x3),(.i (gI r0 1))])
 .br (okR r1) (let r2:TR:=(qV [(.s (gS r0 0)),(.s (gS r1 0)),(.i (gI r1 1))])
 .br (okR r2) (.leaf (0,[(.s (gS r2 0)),(.i (gI r2 1))])) .fail) .fail) .fail):=by kernel_rfl
theorem qmY(x0:List UInt8)(x1:List UInt8)(x2:List UInt8)(x3:List UInt8)(x4:Int):q2c [.s x0,.s x1,.s x2,.s x3,.i x4]=(let r0:TR:=(qf [(.r [[(.s x0)],[(.s x3)]]),(.i x4)])
 .br (okR r0) (let r1:TR:=(qf [(.r [[(.s x1)],[(.s x2)]]),(.i (gI r0 1))])
 .br (okR r1) (.leaf (0,[(.s (gS r0 0)),(.s (gS r1 0)),(.i (gI r1 1))])) .fail) .fail):=by kernel_rfl
theorem q9U(x0:List UInt8)(x1:List UInt8):wU [.s x0,.s x1]=(let r0:TR:=(qP [(.r [[(.s x0)],[(.s x1)]])])
 .br (okR r0) (.br (ine (gI r0 0) 0) (.leaf (0,[(.s []),(.i (gI r0 0))])) (let r1:TR:=(qM [(.s x0)])
 .br (okR r1) (let r2:TR:=(qM [(.s x1)])
 .br (okR r2) (let r3:TR:=(q2c [(.s (gS r1 0)),(.s (gS r1 1)),(.s (gS r2 0)),(.s (gS r2 1)),(.i 0)])
 .br (okR r3) (.br (ine (gI r3 2) 0) (.leaf (0,[(.s []),(.i (gI r3 2))])) (.br (seq (gS r3 1) [48]) (.leaf (0,[(.s []),(.i 10)])) (let r4:TR:=(qQ [(.s (gS r3 0)),(.s (gS r3 1)),(.i (gI r3 2))])
 .br (okR r4) (.leaf (0,[(.s (gS r4 0)),(.i (gI r4 1))])) .fail))) .fail) .fail) .fail)) .fail):=by kernel_rfl
theorem qpS(x0:List UInt8)(x1:List UInt8):q55 [.s x0,.s x1]=(let r0:TR:=(qP [(.r [[(.s x0)],[(.s x1)]])])
 .br (okR r0) (.br (ine (gI r0 0) 0) (.leaf (0,[(.s []),(.i (gI r0 0))])) (.br (seq x1 [48]) (.leaf (0,[(.s []),(.i 10)])) (let r1:TR:=(wU [(.s x0),(.s x1)])
 .br (okR r1) (.leaf (0,[(.s (gS r1 0)),(.i (gI r1 1))])) .fail))) .fail):=by kernel_rfl
theorem q96(x0:List UInt8)(x1:List UInt8)(x2:Int):zv [.s x0,.s x1,.i x2]=(.br (ine x2 0) (.leaf (0,[(.s [48]),(.i x2)])) (let r0:TR:=(q55 [(.s x0),(.s x1)])
 .br (okR r0) (.br (ine (gI r0 1) 0) (.leaf (0,[(.s [48]),(.i (gI r0 1))])) (.leaf (0,[(.s (gS r0 0)),(.i (gI r0 1))]))) .fail)):=by kernel_rfl
theorem qg4(x0:R)(x1:Int)(x2:Int)(x3:Int)(x4:Int):v7 [.r x0,.i x1,.i x2,.i x3,.i x4]=(.br (inb x1 (qt x0)) (.br (inb x2 (qt x0)) (.br (ieq x1 x2) (.leaf (0,[(.s (cS x0 x1 0)),(.s (cS x0 x1 1)),(.s [48]),(.s [48]),(.s [48]),(.b (ieq x3 0)),(.i x4)])) (let r0:TR:=(zK [(.s (cS x0 x2 0)),(.s (cS x0 x2 1)),(.s (cS x0 x1 0)),(.s (cS x0 x1 1)),(.i x4)])
 .br (okR r0) (let r1:TR:=(zr [(.s (gS r0 0)),(.s (gS r0 1)),(.s (gS r0 0)),(.s (gS r0 1)),(.i (gI r0 2))])
 .br (okR r1) (.br (seq (gS r1 0) [48]) (.leaf (0,[(.s []),(.s []),(.s []),(.s []),(.s []),(.b false),(.i (gI r1 1))])) (let r2:TR:=(qV [(.s (gS r1 0)),(.s (cS x0 x1 2)),(.i (gI r1 1))])
 .br (okR r2) (let r3:TR:=(qE [(.s (gS r2 0)),(.s (cS x0 x2 2)),(.i (gI r2 1))])
 .br (okR r3) (let r4:TR:=(qI [(.s [50]),(.s (gS r1 0)),(.i (gI r3 1))])
 .br (okR r4) (let r5:TR:=(zv [(.s (gS r3 0)),(.s (gS r4 0)),(.i (gI r4 1))])
 .br (okR r5) (let r6:TR:=(qI [(.s (gS r5 0)),(.s (gS r0 0)),(.i (gI r5 1))])
 .br (okR r6) (let r7:TR:=(qV [(.s (cS x0 x1 0)),(.s (gS r6 0)),(.i (gI r6 1))])
 .br (okR r7) (let r8:TR:=(qI [(.s (gS r5 0)),(.s (gS r0 1)),(.i (gI r7 1))])
 .br (okR r8) (let r9:TR:=(qV [(.s (cS x0 x1 1)),(.s (gS r8 0)),(.i (gI r8 1))])
 .br (okR r9) (let r10:TR:=(qE [(.s [48]),(.s (gS r0 1)),(.i (gI r9 1))])
 .br (okR r10) (let r11:TR:=(zv [(.s (cS x0 x1 2)),(.s (gS r1 0)),(.i (gI r10 1))])
 .br (okR r11) (let r12:TR:=(qI [(.s (gS r5 0)),(.s (gS r5 0)),(.i (gI r11 1))])
 .br (okR r12) (let r13:TR:=(qE [(.s (gS r11 0)),(.s (gS r12 0)),(.i (gI r12 1))])
 .br (okR r13) (.br (ilt x3 0) (let r14:TR:=(qE [(.s [48]),(.s (gS r0 0)),(.i (gI r13 1))])
 .br (okR r14) (.br (ieq (gI r14 1) 0) (.br (inb 0 (ql (gS r13 0))) (.br (ine (sat (gS r13 0) 0) 45) (.leaf (0,[(.s (gS r7 0)),(.s (gS r9 0)),(.s (gS r0 1)),(.s (gS r14 0)),(.s (gS r13 0)),(.b (beq (seq (gS r13 0) [48]) (ieq x3 0))),(.i (gI r14 1))])) (.leaf (0,[(.s (gS r7 0)),(.s (gS r9 0)),(.s (gS r0 1)),(.s (gS r14 0)),(.s (gS r13 0)),(.b false),(.i (gI r14 1))]))) .fail) (.leaf (0,[(.s (gS r7 0)),(.s (gS r9 0)),(.s (gS r0 1)),(.s (gS r14 0)),(.s (gS r13 0)),(.b false),(.i (gI r14 1))]))) .fail) (.br (ieq (gI r13 1) 0) (.br (inb 0 (ql (gS r13 0))) (.br (ine (sat (gS r13 0) 0) 45) (.leaf (0,[(.s (gS r7 0)),(.s (gS r9 0)),(.s (gS r10 0)),(.s (gS r0 0)),(.s (gS r13 0)),(.b (beq (seq (gS r13 0) [48]) (ieq x3 0))),(.i (gI r13 1))])) (.leaf (0,[(.s (gS r7 0)),(.s (gS r9 0)),(.s (gS r10 0)),(.s (gS r0 0)),(.s (gS r13 0)),(.b false),(.i (gI r13 1))]))) .fail) (.leaf (0,[(.s (gS r7 0)),(.s (gS r9 0)),(.s (gS r10 0)),(.s (gS r0 0)),(.s (gS r13 0)),(.b false),(.i (gI r13 1))])))) .fail) .fail) .fail) .fail) .fail) .fail) .fail) .fail) .fail) .fail) .fail) .fail)) .fail) .fail)) .fail) .fail):=by kernel_rfl
theorem qos(x0:List UInt8):q5R [.s x0]=(let r0:TR:=(qY [(.s x0)])
 .br (okR r0) (.br (ine (gI r0 0) 0) (.leaf (0,[(.i 0),(.i (gI r0 0))])) (let r1:TR:=(jK [(.s x0)])
 .br (okR r1) (.leaf (0,[(.i (gI r1 0)),(.i 0)])) .fail)) .fail):=by kernel_rfl
theorem qhZ(x0:List UInt8)(x1:Int):zj [.s x0,.i x1]=(.br (ine x1 0) (.leaf (0,[(.i 0),(.i x1)])) (let r0:TR:=(q5R [(.s x0)])
 .br (okR r0) (.leaf (0,[(.i (gI r0 0)),(.i (gI r0 1))])) .fail)):=by kernel_rfl
theorem qgW(x0:List UInt8)(x1:List UInt8)(x2:List UInt8)(x3:Int):ya [.s x0,.s x1,.s x2,.i x3]=(let r0:TR:=(zj [(.s x0),(.i x3)])
 .br (okR r0) (let r1:TR:=(zj [(.s x1),(.i (gI r0 1))])
 .br (okR r1) (let r2:TR:=(zj [(.s x2),(.i (gI r1 1))])
 .br (okR r2) (.br (ile 0 (uM .i64 (gI r0 0) (uM .i64 (gI r1 0) (gI r2 0)))) (.br (ine (gI r0 0) 0) (.leaf (0,[(.i (gI r0 0)),(.i (gI r2 1))])) (.leaf (0,[(.i (uM .i64 (gI r1 0) (gI r2 0))),(.i (gI r2 1))]))) (let r3:TR:=(qf [(.r [[(.s x0)],[(.s x0)]]),(.i (gI r2 1))])
 .br (okR r3) (let r4:TR:=(qf [(.r [[(.s x1)],[(.s x1)],[(.s x2)]]),(.i (gI r3 1))])
 .br (okR r4) (let r5:TR:=(zg [(.s (gS r3 0)),(.s (gS r4 0)),(.i (gI r4 1))])
 .br (okR r5) (let r6:TR:=(zj [(.s (gS r5 0)),(.i (gI r5 1))])
 .br (okR r6) (.leaf (0,[(.i (uM .i64 (gI r0 0) (gI r6 0))),(.i (gI r6 1))])) .fail) .fail) .fail) .fail)) .fail) .fail) .fail):=by kernel_rfl
theorem qhB(x0:List UInt8)(x1:List UInt8)(x2:List UInt8)(x3:List UInt8)(x4:List UInt8):kG [.s x0,.s x1,.s x2,.s x3,.s x4]=(let r0:TR:=(qP [(.r [[(.s x0)],[(.s x1)],[(.s x2)],[(.s x3)],[(.s x4)]])])
 .br (okR r0) (.br (ine (gI r0 0) 0) (.leaf (0,[(.i 0),(.i (gI r0 0))])) (.br (inb 0 (ql x2)) (.br (ieq (sat x2 0) 45) (.leaf (0,[(.i 0),(.i 2)])) (.br (inb 0 (ql x4)) (.br (ieq (sat x4 0) 45) (.leaf (0,[(.i 0),(.i 2)])) (let r1:TR:=(qM [(.s x0)])
 .br (okR r1) (let r2:TR:=(qM [(.s x1)])
 .br (okR r2) (let r3:TR:=(qM [(.s x2)])
 .br (okR r3) (let r4:TR:=(qM [(.s x3)])
 .br (okR r4) (let r5:TR:=(qM [(.s x4)])
 .br (okR r5) (let r6:TR:=(qf [(.r [[(.s (gS r1 0))],[(.s (gS r2 1))],[(.s (gS r3 1))],[(.s (gS r4 1))],[(.s (gS r5 1))]]),(.i 0)])
 .br (okR r6) (let r7:TR:=(qf [(.r [[(.s (gS r2 0))],[(.s (gS r1 1))],[(.s (gS r4 1))],[(.s (gS r5 1))]]),(.i (gI r6 1))])
 .br (okR r7) (let r8:TR:=(qf [(.r [[(.s (gS r3 0))],[(.s (gS r3 1))]]),(.i (gI r7 1))])
 .br (okR r8) (let r9:TR:=(qf [(.r [[(.s (gS r4 0))],[(.s (gS r1 1))],[(.s (gS r2 1))],[(.s (gS r3 1))]]),(.i (gI r8 1))])
 .br (okR r9) (let r10:TR:=(qf [(.r [[(.s (gS r5 0))],[(.s (gS r5 1))]]),(.i (gI r9 1))])
 .br (okR r10) (let r11:TR:=(ya [(.s (gS r6 0)),(.s (gS r7 0)),(.s (gS r8 0)),(.i (gI r10 1))])
 .br (okR r11) (let r12:TR:=(zj [(.s (gS r9 0)),(.i (gI r11 1))])
 .br (okR r12) (let r13:TR:=(zj [(.s (gS r10 0)),(.i (gI r12 1))])
 .br (okR r13) (.br (ile 0 (uM .i64 (gI r11 0) (uM .i64 (gI r12 0) (gI r13 0)))) (.br (ieq (gI r11 0) 0) (.leaf (0,[(.i (uM .i64 (gI r12 0) (gI r13 0))),(.i (gI r13 1))])) (.leaf (0,[(.i (gI r11 0)),(.i (gI r13 1))]))) (let r14:TR:=(qf [(.r [[(.s (gS r6 0))],[(.s (gS r6 0))]]),(.i (gI r13 1))])
 .br (okR r14) (let r15:TR:=(qf [(.r [[(.s (gS r7 0))],[(.s (gS r7 0))],[(.s (gS r8 0))]]),(.i (gI r14 1))])
 .br (okR r15) (let r16:TR:=(jk [(.s (gS r14 0)),(.s (gS r15 0)),(.i (gI r15 1))])
 .br (okR r16) (let r17:TR:=(qf [(.r [[(.s (gS r9 0))],[(.s (gS r9 0))],[(.s (gS r10 0))]]),(.i (gI r16 1))])
 .br (okR r17) (let r18:TR:=(zg [(.s (gS r16 0)),(.s (gS r17 0)),(.i (gI r17 1))])
 .br (okR r18) (let r19:TR:=(qf [(.r [[(.s [50])],[(.s (gS r6 0))],[(.s (gS r7 0))]]),(.i (gI r18 1))])
 .br (okR r19) (let r20:TR:=(ya [(.s (gS r18 0)),(.s (gS r19 0)),(.s (gS r8 0)),(.i (gI r19 1))])
 .br (okR r20) (.br (ine (gI r20 1) 0) (.leaf (0,[(.i 0),(.i (gI r20 1))])) (.leaf (0,[(.i (uM .i64 (gI r11 0) (gI r20 0))),(.i 0)]))) .fail) .fail) .fail) .fail) .fail) .fail) .fail)) .fail) .fail) .fail) .fail) .fail) .fail) .fail) .fail) .fail) .fail) .fail) .fail) .fail)) .fail)) .fail)) .fail):=by kernel_rfl
theorem qiU(x0:List UInt8)(x1:List UInt8)(x2:List UInt8):q0l [.s x0,.s x1,.s x2]=(let r0:TR:=(kG [(.s x0),(.s x1),(.s x2),(.s [48]),(.s [48])])
 .br (okR r0) (.leaf (0,[(.i (gI r0 0)),(.i (gI r0 1))])) .fail):=by kernel_rfl
theorem qia(x0:List UInt8)(x1:List UInt8)(x2:List UInt8)(x3:Int):zP [.s x0,.s x1,.s x2,.i x3]=(.br (ine x3 0) (.leaf (0,[(.i 0),(.i x3)])) (let r0:TR:=(q0l [(.s x0),(.s x1),(.s x2)])
 .br (okR r0) (.leaf (0,[(.i (gI r0 0)),(.i (gI r0 1))])) .fail)):=by kernel_rfl
theorem qg0(x0:List UInt8)(x1:List UInt8)(x2:List UInt8)(x3:List UInt8)(x4:List UInt8)(x5:List UInt8)(x6:List UInt8)(x7:List UInt8)(x8:Int):jb [.s x0,.s x1,.s x2,.s x3,.s x4,.s x5,.s x6,.s x7,.i x8]=(let r0:TR:=(zK [(.s x3),(.s x4),(.s x0),(.s x1),(.i x8)])
 .br (okR r0) (let r1:TR:=(zr [(.s (gS r0 0)),(.s (gS r0 1)),(.s (gS r0 0)),(.s (gS r0 1)),(.i (gI r0 2))])
 .br (okR r1) (let r2:TR:=(zr [(.s x5),(.s x6),(.s x5),(.s x6),(.i (gI r1 1))])
 .br (okR r2) (let r3:TR:=(qI [(.s x7),(.s (gS r2 0)),(.i (gI r2 1))])
 .br (okR r3) (let r4:TR:=(qV [(.s (gS r1 0)),(.s (gS r3 0)),(.i (gI r3 1))])
 .br (okR r4) (let r5:TR:=(qE [(.s (gS r4 0)),(.s x2),(.i (gI r4 1))])
 .br (okR r5) (let r6:TR:=(zr [(.s (gS r0 0)),(.s (gS r0 1)),(.s x5),(.s x6),(.i (gI r5 1))])
 .br (okR r6) (let r7:TR:=(qI [(.s [50]),(.s (gS r6 0)),(.i (gI r6 1))])
 .br (okR r7) (let r8:TR:=(zP [(.s (gS r5 0)),(.s (gS r7 0)),(.s x7),(.i (gI r7 1))])
 .br (okR r8) (.leaf (0,[(.b (ile (gI r8 0) 0)),(.i (gI r8 1))])) .fail) .fail) .fail) .fail) .fail) .fail) .fail) .fail) .fail):=by kernel_rfl
theorem yC(y0:R)(y1:Int)(y2:Int)(y3:R)(y4:R)(y5:R)(y6:Int)(y7:Int)(y8:Int)(y9:Bool)(y10:List UInt8)(y11:List UInt8)(y12:List UInt8)(y13:List UInt8)(y14:List UInt8)(y15:Bool)(y16:R)(y17:Int)(y18:Int)(y19:Int)(y20:List UInt8)(y21:List UInt8)(y22:List UInt8)(y23:List UInt8)(y24:List UInt8)(y25:Bool)(y26:List UInt8)(y27:List UInt8)(y28:List UInt8)(y29:List UInt8)(y30:List UInt8)(y31:Bool)(y32:Bool)(y33:R)(y34:Int)(y35:Int)(y36:Int)(y37:Int)(y38:List UInt8)(y39:List UInt8)(y40:List UInt8)(y41:List UInt8)(y42:List UInt8):w9 [.r y0,.i y1,.i y2,.r y3,.r y4,.r y5,.i y6,.i y7,.i y8,.b y9,.s y10,.s y11,.s y12,.s y13,.s y14,.b y15,.r y16,.i y17,.i y18,.i y19,.s y20,.s y21,.s y22,.s y23,.s y24,.b y25,.s y26,.s y27,.s y28,.s y29,.s y30,.b y31,.b y32,.r y33,.i y34,.i y35,.i y36,.i y37,.s y38,.s y39,.s y40,.s y41,.s y42]=(.br (ilt y2 y1) (.br (inb y2 (qt y0)) (let r0:TR:=(jb [(.s (cS y0 y2 0)),(.s (cS y0 y2 1)),(.s (cS y0 y2 2)),(.s y38),(.s y39),(.s y40),(.s y41),(.s y42),(.i y34)])
 .br (okR r0) (.br (not (gB r0 0)) (.leaf (2,[(.i y2),(.r y3),(.r y4),(.r y5),(.i y6),(.i y7),(.i y8),(.b y9),(.s y10),(.s y11),(.s y12),(.s y13),(.s y14),(.b y15),(.r y16),(.i y17),(.i y18),(.i y19),(.s y20),(.s y21),(.s y22),(.s y23),(.s y24),(.b y25),(.s y26),(.s y27),(.s y28),(.s y29),(.s y30),(.b y31),(.b y32),(.r y33),(.i (gI r0 1)),(.i y35),(.i y36),(.i y37),(.s y38),(.s y39),(.s y40),(.s y41),(.s y42)])) (.leaf (0,[(.r y0),(.i y1),(.i (qh .i64 y2 1)),(.r y3),(.r y4),(.r y5),(.i y6),(.i y7),(.i y8),(.b y9),(.s y10),(.s y11),(.s y12),(.s y13),(.s y14),(.b y15),(.r y16),(.i y17),(.i y18),(.i y19),(.s y20),(.s y21),(.s y22),(.s y23),(.s y24),(.b y25),(.s y26),(.s y27),(.s y28),(.s y29),(.s y30),(.b y31),(.b y32),(.r y33),(.i (gI r0 1)),(.i y35),(.i y36),(.i y37),(.s y38),(.s y39),(.s y40),(.s y41),(.s y42)]))) .fail) .fail) (.leaf (1,[(.r y3),(.r y4),(.r y5),(.i y6),(.i y7),(.i y8),(.b y9),(.s y10),(.s y11),(.s y12),(.s y13),(.s y14),(.b y15),(.r y16),(.i y17),(.i y18),(.i y19),(.s y20),(.s y21),(.s y22),(.s y23),(.s y24),(.b y25),(.s y26),(.s y27),(.s y28),(.s y29),(.s y30),(.b y31),(.b y32),(.r y33),(.i y34),(.i y35),(.i y36),(.i y37),(.s y38),(.s y39),(.s y40),(.s y41),(.s y42)]))):=by kernel_rfl
theorem qeE(x0:R)(x1:Int)(x2:Int)(x3:Int)(x4:Int):zb [.r x0,.i x1,.i x2,.i x3,.i x4]=(let r0:TR:=(v7 [(.r x0),(.i x1),(.i x2),(.i x3),(.i x4)])
 .br (okR r0) (.br (gB r0 5) (let r1:TR:=(qg w9 [(.r x0),(.i (qt x0)),(.i 0),(.r x0),(.r x0),(.r x0),(.i x1),(.i x2),(.i x3),(.b (gB r0 5)),(.s (gS r0 0)),(.s (gS r0 1)),(.s (gS r0 2)),(.s (gS r0 3)),(.s (gS r0 4)),(.b (gB r0 5)),(.r x0),(.i x1),(.i x2),(.i x3),(.s (gS r0 0)),(.s (gS r0 1)),(.s (gS r0 2)),(.s (gS r0 3)),(.s (gS r0 4)),(.b (gB r0 5)),(.s (gS r0 0)),(.s (gS r0 1)),(.s (gS r0 2)),(.s (gS r0 3)),(.s (gS r0 4)),(.b (gB r0 5)),(.b (gB r0 5)),(.r x0),(.i (gI r0 6)),(.i x1),(.i x2),(.i x3),(.s (gS r0 0)),(.s (gS r0 1)),(.s (gS r0 2)),(.s (gS r0 3)),(.s (gS r0 4))])
 .br (okR r1) (.br (jIs r1 0) (.leaf (0,[(.b (ieq (gI r1 31) 0)),(.i (gI r1 31))])) (.br (not (ile 0 (gI r1 0))) (.leaf (0,[(.b (ieq (gI r1 32) 0)),(.i (gI r1 32))])) (.leaf (0,[(.b false),(.i (gI r1 32))])))) .fail) (.leaf (0,[(.b false),(.i (gI r0 6))]))) .fail):=by kernel_rfl
theorem q2z(y0:Int)(y1:Int)(y2:Int)(y3:R)(y4:Int)(y5:Int)(y6:Int)(y7:Bool)(y8:Int):wF [.i y0,.i y1,.i y2,.r y3,.i y4,.i y5,.i y6,.b y7,.i y8]=(.br (ilt y1 y0) (let r0:TR:=(zb [(.r y3),(.i y1),(.i y1),(.i 0),(.i y2)])
 .br (okR r0) (.br (gB r0 0) (.leaf (2,[(.i (gI r0 1)),(.r y3),(.i y1),(.i y1),(.i 0),(.b true),(.i y8)])) (.leaf (0,[(.i y0),(.i (qh .i64 y1 1)),(.i (gI r0 1)),(.r y3),(.i y4),(.i y5),(.i y6),(.b y7),(.i y8)]))) .fail) (.leaf (1,[(.i y2),(.r y3),(.i y4),(.i y5),(.i y6),(.b y7),(.i y8)]))):=by kernel_rfl
theorem q2f(y0:Int)(y1:Int)(y2:Int)(y3:Int)(y4:Int)(y5:Int)(y6:Int)(y7:R)(y8:Int)(y9:Int)(y10:Int)(y11:Bool)(y12:Int)(y13:R):wc [.i y0,.i y1,.i y2,.i y3,.i y4,.i y5,.i y6,.r y7,.i y8,.i y9,.i y10,.b y11,.i y12,.r y13]=(.br (ilt y5 y4) (.br (inb y5 (qt y13)) (let r0:TR:=(zb [(.r y7),(.i y0),(.i y1),(.i (cI y13 y5 0)),(.i y6)])
 .br (okR r0) (.br (gB r0 0) (.leaf (2,[(.i (gI r0 1)),(.r y7),(.i y0),(.i y1),(.i (cI y13 y5 0)),(.b true),(.i y12)])) (.leaf (0,[(.i y0),(.i y1),(.i y2),(.i y3),(.i y4),(.i (qh .i64 y5 1)),(.i (gI r0 1)),(.r y7),(.i y8),(.i y9),(.i y10),(.b y11),(.i y12),(.r y13)]))) .fail) .fail) (.leaf (1,[(.i y0),(.i y1),(.i y2),(.i y3),(.i y6),(.r y7),(.i y8),(.i y9),(.i y10),(.b y11),(.i y12)]))):=by kernel_rfl
theorem q2e(y0:Int)(y1:Int)(y2:Int)(y3:Int)(y4:Int)(y5:R)(y6:Int)(y7:Int)(y8:Int)(y9:Bool)(y10:Int):zZ [.i y0,.i y1,.i y2,.i y3,.i y4,.r y5,.i y6,.i y7,.i y8,.b y9,.i y10]=(.br (ilt y1 y10) (let r0:TR:=(qg wc [(.i y0),(.i y1),(.i y2),(.i y3),(.i (qt [[(.i 0)],[(.i 1)],[(.i (-1))]])),(.i 0),(.i y4),(.r y5),(.i y6),(.i y7),(.i y8),(.b y9),(.i y10),(.r [[(.i 0)],[(.i 1)],[(.i (-1))]])])
 .br (okR r0) (.br (jIs r0 0) (.leaf (0,[(.i (gI r0 0)),(.i (qh .i64 (gI r0 1) 1)),(.i (gI r0 2)),(.i (gI r0 3)),(.i (gI r0 4)),(.r (gR r0 5)),(.i (gI r0 6)),(.i (gI r0 7)),(.i (gI r0 8)),(.b (gB r0 9)),(.i (gI r0 10))])) (.leaf (2,[(.i (gI r0 0)),(.r (gR r0 1)),(.i (gI r0 2)),(.i (gI r0 3)),(.i (gI r0 4)),(.b (gB r0 5)),(.i (gI r0 6))]))) .fail) (.leaf (1,[(.i y2),(.i y3),(.i y4),(.r y5),(.i y6),(.i y7),(.i y8),(.b y9),(.i y10)]))):=by kernel_rfl
theorem q2Y(y0:Int)(y1:Int)(y2:Int)(y3:R)(y4:Int)(y5:Int)(y6:Int)(y7:Bool)(y8:Int):wH [.i y0,.i y1,.i y2,.r y3,.i y4,.i y5,.i y6,.b y7,.i y8]=(.br (ilt y1 y0) (let r0:TR:=(qg zZ [(.i y1),(.i (qh .i64 y1 1)),(.i y0),(.i y1),(.i y2),(.r y3),(.i y4),(.i y5),(.i y6),(.b y7),(.i y8)])
 .br (okR r0) (.br (jIs r0 0) (.leaf (0,[(.i (gI r0 0)),(.i (qh .i64 (gI r0 1) 1)),(.i (gI r0 2)),(.r (gR r0 3)),(.i (gI r0 4)),(.i (gI r0 5)),(.i (gI r0 6)),(.b (gB r0 7)),(.i (gI r0 8))])) (.leaf (2,[(.i (gI r0 0)),(.r (gR r0 1)),(.i (gI r0 2)),(.i (gI r0 3)),(.i (gI r0 4)),(.b (gB r0 5)),(.i (gI r0 6))]))) .fail) (.leaf (1,[(.i y2),(.r y3),(.i y4),(.i y5),(.i y6),(.b y7),(.i y8)]))):=by kernel_rfl
theorem qfQ(x0:R)(x1:Int):qD [.r x0,.i x1]=(let r0:TR:=(qg wF [(.i (qt x0)),(.i 0),(.i x1),(.r x0),(.i 0),(.i 0),(.i 0),(.b false),(.i (qt x0))])
 .br (okR r0) (.br (jIs r0 0) (let r1:TR:=(qg wH [(.i (gI r0 6)),(.i 0),(.i (gI r0 0)),(.r (gR r0 1)),(.i (gI r0 2)),(.i (gI r0 3)),(.i (gI r0 4)),(.b (gB r0 5)),(.i (gI r0 6))])
 .br (okR r1) (.br (jIs r1 0) (.leaf (0,[(.i 0),(.i 0),(.i 0),(.b false),(.i (gI r1 0))])) (.leaf (0,[(.i (gI r1 2)),(.i (gI r1 3)),(.i (gI r1 4)),(.b (gB r1 5)),(.i (gI r1 0))]))) .fail) (.leaf (0,[(.i (gI r0 2)),(.i (gI r0 3)),(.i (gI r0 4)),(.b (gB r0 5)),(.i (gI r0 0))]))) .fail):=by kernel_rfl
theorem kU(y0:Int)(y1:Int)(y2:Int)(y3:Int)(y4:Int)(y5:Int)(y6:Int)(y7:R)(y8:Int)(y9:Int)(y10:Int)(y11:R)(y12:Int)(y13:R)(y14:R):qU [.i y0,.i y1,.i y2,.i y3,.i y4,.i y5,.i y6,.r y7,.i y8,.i y9,.i y10,.r y11,.i y12,.r y13,.r y14]=(.br (ilt y1 y0) (.br (inb y1 (qt y13)) (.br (inb (cI y13 y1 0) (qt y11)) (.br (ile ((qt y14)+(qt [[(.s (cS y11 (cI y13 y1 0) 0)),(.s (cS y11 (cI y13 y1 0) 1)),(.s (cS y11 (cI y13 y1 0) 2))]])) 2932031007402) (.leaf (0,[(.i y0),(.i (qh .i64 y1 1)),(.i y2),(.i y3),(.i y4),(.i y5),(.i y6),(.r y7),(.i y8),(.i y9),(.i y10),(.r y11),(.i y12),(.r y13),(.r (qaY y14 [[(.s (cS y11 (cI y13 y1 0) 0)),(.s (cS y11 (cI y13 y1 0) 1)),(.s (cS y11 (cI y13 y1 0) 2))]]))])) .fail) .fail) .fail) (.leaf (1,[(.i y2),(.i y3),(.i y4),(.i y5),(.i y6),(.r y7),(.i y8),(.i y9),(.i y10),(.r y11),(.i y12),(.r y13),(.r y14)]))):=by kernel_rfl
theorem q2I(y0:Int)(y1:Int)(y2:Int)(y3:Int)(y4:R)(y5:Int):wS [.i y0,.i y1,.i y2,.i y3,.r y4,.i y5]=(.br (ilt y1 (qt y4)) (let r0:TR:=(qg qU [(.i (qt [[(.i y0)],[(.i y1)]])),(.i 0),(.i y0),(.i y1),(.i y2),(.i y3),(.i y1),(.r y4),(.i (qt y4)),(.i y0),(.i y1),(.r y4),(.i y5),(.r [[(.i y0)],[(.i y1)]]),(.r [])])
 .br (okR r0) (let r1:TR:=(qD [(.r (gR r0 12)),(.i (gI r0 10))])
 .br (okR r1) (.br (not (gB r1 3)) (.br (ieq (gI r1 4) 0) (.leaf (2,[(.i 0),(.r [[(.i (gI r0 0))],[(.i (gI r0 1))]])])) (.leaf (0,[(.i (gI r0 0)),(.i (qh .i64 (gI r0 1) 1)),(.i (gI r0 2)),(.i (gI r0 3)),(.r (gR r0 9)),(.i (gI r1 4))]))) (.leaf (0,[(.i (gI r0 0)),(.i (qh .i64 (gI r0 1) 1)),(.i (gI r0 2)),(.i (gI r0 3)),(.r (gR r0 9)),(.i (gI r1 4))]))) .fail) .fail) (.leaf (1,[(.i y2),(.i y3),(.r y4),(.i y5)]))):=by kernel_rfl
theorem q3z(y0:Int)(y1:Int)(y2:R)(y3:Int):va [.i y0,.i y1,.r y2,.i y3]=(.br (ilt y1 y0) (let r0:TR:=(qg wS [(.i y1),(.i (qh .i64 y1 1)),(.i y0),(.i y1),(.r y2),(.i y3)])
 .br (okR r0) (.br (jIs r0 0) (.leaf (0,[(.i (gI r0 0)),(.i (qh .i64 (gI r0 1) 1)),(.r (gR r0 2)),(.i (gI r0 3))])) (.leaf (2,[(.i (gI r0 0)),(.r (gR r0 1))]))) .fail) (.leaf (1,[(.r y2),(.i y3)]))):=by kernel_rfl
theorem kT(y0:Int)(y1:Int)(y2:Int)(y3:Int)(y4:Int)(y5:Int)(y6:Int)(y7:Int)(y8:R)(y9:Int)(y10:Int)(y11:Int)(y12:Int)(y13:R)(y14:Int)(y15:R)(y16:R):qT [.i y0,.i y1,.i y2,.i y3,.i y4,.i y5,.i y6,.i y7,.r y8,.i y9,.i y10,.i y11,.i y12,.r y13,.i y14,.r y15,.r y16]=(.br (ilt y1 y0) (.br (inb y1 (qt y15)) (.br (inb (cI y15 y1 0) (qt y13)) (.br (ile ((qt y16)+(qt [[(.s (cS y13 (cI y15 y1 0) 0)),(.s (cS y13 (cI y15 y1 0) 1)),(.s (cS y13 (cI y15 y1 0) 2))]])) 2932031007402) (.leaf (0,[(.i y0),(.i (qh .i64 y1 1)),(.i y2),(.i y3),(.i y4),(.i y5),(.i y6),(.i y7),(.r y8),(.i y9),(.i y10),(.i y11),(.i y12),(.r y13),(.i y14),(.r y15),(.r (qaY y16 [[(.s (cS y13 (cI y15 y1 0) 0)),(.s (cS y13 (cI y15 y1 0) 1)),(.s (cS y13 (cI y15 y1 0) 2))]]))])) .fail) .fail) .fail) (.leaf (1,[(.i y2),(.i y3),(.i y4),(.i y5),(.i y6),(.i y7),(.r y8),(.i y9),(.i y10),(.i y11),(.i y12),(.r y13),(.i y14),(.r y15),(.r y16)]))):=by kernel_rfl
theorem q2J(y0:Int)(y1:Int)(y2:Int)(y3:Int)(y4:Int)(y5:R)(y6:Int):wK [.i y0,.i y1,.i y2,.i y3,.i y4,.r y5,.i y6]=(.br (ilt y2 (qt y5)) (let r0:TR:=(qg qT [(.i (qt [[(.i y0)],[(.i y1)],[(.i y2)]])),(.i 0),(.i y0),(.i y1),(.i y2),(.i y3),(.i y4),(.i y2),(.r y5),(.i (qt y5)),(.i y0),(.i y1),(.i y2),(.r y5),(.i y6),(.r [[(.i y0)],[(.i y1)],[(.i y2)]]),(.r [])])
 .br (okR r0) (let r1:TR:=(qD [(.r (gR r0 14)),(.i (gI r0 12))])
 .br (okR r1) (.br (not (gB r1 3)) (.br (ieq (gI r1 4) 0) (.leaf (2,[(.i 0),(.r [[(.i (gI r0 0))],[(.i (gI r0 1))],[(.i (gI r0 2))]])])) (.leaf (0,[(.i (gI r0 0)),(.i (gI r0 1)),(.i (qh .i64 (gI r0 2) 1)),(.i (gI r0 3)),(.i (gI r0 4)),(.r (gR r0 11)),(.i (gI r1 4))]))) (.leaf (0,[(.i (gI r0 0)),(.i (gI r0 1)),(.i (qh .i64 (gI r0 2) 1)),(.i (gI r0 3)),(.i (gI r0 4)),(.r (gR r0 11)),(.i (gI r1 4))]))) .fail) .fail) (.leaf (1,[(.i y0),(.i y1),(.i y3),(.i y4),(.r y5),(.i y6)]))):=by kernel_rfl
theorem q2W(y0:Int)(y1:Int)(y2:Int)(y3:Int)(y4:R)(y5:Int):wR [.i y0,.i y1,.i y2,.i y3,.r y4,.i y5]=(.br (ilt y1 (qt y4)) (let r0:TR:=(qg wK [(.i y0),(.i y1),(.i (qh .i64 y1 1)),(.i y2),(.i y3),(.r y4),(.i y5)])
 .br (okR r0) (.br (jIs r0 0) (.leaf (0,[(.i (gI r0 0)),(.i (qh .i64 (gI r0 1) 1)),(.i (gI r0 2)),(.i (gI r0 3)),(.r (gR r0 4)),(.i (gI r0 5))])) (.leaf (2,[(.i (gI r0 0)),(.r (gR r0 1))]))) .fail) (.leaf (1,[(.i y2),(.i y3),(.r y4),(.i y5)]))):=by kernel_rfl
theorem q2Q(y0:Int)(y1:Int)(y2:R)(y3:Int):wT [.i y0,.i y1,.r y2,.i y3]=(.br (ilt y1 y0) (let r0:TR:=(qg wR [(.i y1),(.i (qh .i64 y1 1)),(.i y0),(.i y1),(.r y2),(.i y3)])
 .br (okR r0) (.br (jIs r0 0) (.leaf (0,[(.i (gI r0 0)),(.i (qh .i64 (gI r0 1) 1)),(.r (gR r0 2)),(.i (gI r0 3))])) (.leaf (2,[(.i (gI r0 0)),(.r (gR r0 1))]))) .fail) (.leaf (1,[(.i y3)]))):=by kernel_rfl
theorem q4S(x0:R):qZ [.r x0]=(let r0:TR:=(z7 [(.r x0)])
 .br (okR r0) (.br (ine (gI r0 0) 0) (.leaf (0,[(.r []),(.i (gI r0 0))])) (let r1:TR:=(qg va [(.i (qt x0)),(.i 0),(.r x0),(.i 0)])
 .br (okR r1) (.br (jIs r1 0) (let r2:TR:=(qg wT [(.i (qt (gR r1 0))),(.i 0),(.r (gR r1 0)),(.i (gI r1 1))])
 .br (okR r2) (.br (jIs r2 0) (.leaf (0,[(.r []),(.i (gI r2 0))])) (.leaf (0,[(.r (gR r2 1)),(.i (gI r2 0))]))) .fail) (.leaf (0,[(.r (gR r1 1)),(.i (gI r1 0))]))) .fail)) .fail):=by kernel_rfl
theorem qkp(x0:R):q0O [.r x0]=(let r0:TR:=(z7 [(.r x0)])
 .br (okR r0) (.br (ine (gI r0 0) 0) (.leaf (0,[(.b false),(.i 0),(.i 0),(.i 0),(.i (gI r0 0))])) (let r1:TR:=(qD [(.r x0),(.i 0)])
 .br (okR r1) (.br (ine (gI r1 4) 0) (.leaf (0,[(.b false),(.i 0),(.i 0),(.i 0),(.i (gI r1 4))])) (.leaf (0,[(.b (gB r1 3)),(.i (gI r1 0)),(.i (gI r1 1)),(.i (gI r1 2)),(.i 0)]))) .fail)) .fail):=by kernel_rfl
theorem qnW(x0:List UInt8)(x1:List UInt8)(x2:List UInt8):wG [.s x0,.s x1,.s x2]=(.leaf (0,[(.s x0),(.s x1),(.s x2)])):=by kernel_rfl
theorem q2D(y0:R)(y1:R)(y2:Int)(y3:Int):wI [.r y0,.r y1,.i y2,.i y3]=(.br (ilt y3 y2) (.br (inb y3 (qt y0)) (.br (inb y3 (qt y1)) (.br (ine (cI y0 y3 0) (cI y1 y3 0)) (.leaf (2,[(.b false)])) (.leaf (0,[(.r y0),(.r y1),(.i y2),(.i (qh .i64 y3 1))]))) .fail) .fail) (.leaf (1,[]))):=by kernel_rfl
theorem qcj(x0:R)(x1:R):zY [.r x0,.r x1]=(.br (ine (qt x0) (qt x1)) (.leaf (0,[(.b false)])) (let r0:TR:=(qg wI [(.r x0),(.r x1),(.i (qt x0)),(.i 0)])
 .br (okR r0) (.br (jIs r0 0) (.leaf (0,[(.b true)])) (.leaf (0,[(.b (gB r0 0))]))) .fail)):=by kernel_rfl
theorem qgd(x0:List UInt8)(x1:List UInt8)(x2:Int):u6 [.s x0,.s x1,.i x2]=(let r0:TR:=(qE [(.s x0),(.s x1),(.i x2)])
 .br (okR r0) (let r1:TR:=(zP [(.s (gS r0 0)),(.s [48]),(.s [48]),(.i (gI r0 1))])
 .br (okR r1) (.leaf (0,[(.i (gI r1 0)),(.i (gI r1 1))])) .fail) .fail):=by kernel_rfl
theorem qiD(x0:List UInt8)(x1:List UInt8)(x2:List UInt8)(x3:List UInt8)(x4:Int):q0u [.s x0,.s x1,.s x2,.s x3,.i x4]=(let r0:TR:=(zK [(.s x0),(.s x1),(.s x2),(.s x3),(.i x4)])
 .br (okR r0) (let r1:TR:=(zr [(.s (gS r0 0)),(.s (gS r0 1)),(.s (gS r0 0)),(.s (gS r0 1)),(.i (gI r0 2))])
 .br (okR r1) (.leaf (0,[(.s (gS r1 0)),(.i (gI r1 1))])) .fail) .fail):=by kernel_rfl
theorem qhy(x0:List UInt8)(x1:List UInt8)(x2:List UInt8)(x3:List UInt8)(x4:List UInt8)(x5:List UInt8)(x6:List UInt8)(x7:Int):wV [.s x0,.s x1,.s x2,.s x3,.s x4,.s x5,.s x6,.i x7]=(let r0:TR:=(q0u [(.s x0),(.s x1),(.s x3),(.s x4),(.i x7)])
 .br (okR r0) (let r1:TR:=(qV [(.s x2),(.s x5),(.i (gI r0 1))])
 .br (okR r1) (let r2:TR:=(qE [(.s (gS r0 0)),(.s (gS r1 0)),(.i (gI r1 1))])
 .br (okR r2) (let r3:TR:=(qI [(.s x2),(.s x5),(.i (gI r2 1))])
 .br (okR r3) (let r4:TR:=(zP [(.s (gS r2 0)),(.s x6),(.s (gS r3 0)),(.i (gI r3 1))])
 .br (okR r4) (.leaf (0,[(.i (gI r4 0)),(.i (gI r4 1))])) .fail) .fail) .fail) .fail) .fail):=by kernel_rfl
theorem qeR(x0:List UInt8)(x1:List UInt8)(x2:List UInt8)(x3:List UInt8)(x4:List UInt8)(x5:List UInt8)(x6:Int):qL [.s x0,.s x1,.s x2,.s x3,.s x4,.s x5,.i x6]=(let r0:TR:=(u6 [(.s x2),(.s x5),(.i x6)])
 .br (okR r0) (.br (ile (gI r0 0) 0) (let r1:TR:=(wV [(.s x0),(.s x1),(.s x2),(.s x3),(.s x4),(.s x5),(.s [50]),(.i (gI r0 1))])
 .br (okR r1) (.leaf (0,[(.b (ile (gI r1 0) 0)),(.i (gI r1 1))])) .fail) (.leaf (0,[(.b false),(.i (gI r0 1))]))) .fail):=by kernel_rfl
theorem qaP(y0:Int)(y1:Int)(y2:List UInt8)(y3:List UInt8)(y4:List UInt8)(y5:List UInt8)(y6:List UInt8)(y7:List UInt8)(y8:R):q0v [.i y0,.i y1,.s y2,.s y3,.s y4,.s y5,.s y6,.s y7,.r y8]=(.br (ilt y1 y0) (.br (inb y1 (qt y8)) (let r0:TR:=(jB [(.s (cS y8 y1 0)),(.s (cS y8 y1 1)),(.s (cS y8 y1 2))])
 .br (okR r0) (.br (ine (gI r0 0) 0) (.leaf (2,[(.i 0),(.i (gI r0 0))])) (.leaf (0,[(.i y0),(.i (qh .i64 y1 1)),(.s y2),(.s y3),(.s y4),(.s y5),(.s y6),(.s y7),(.r y8)]))) .fail) .fail) (.leaf (1,[(.s y2),(.s y3),(.s y4),(.s y5),(.s y6),(.s y7)]))):=by kernel_rfl
theorem qlf(x0:List UInt8)(x1:List UInt8)(x2:List UInt8)(x3:List UInt8)(x4:List UInt8)(x5:List UInt8):q2T [.s x0,.s x1,.s x2,.s x3,.s x4,.s x5]=(let r0:TR:=(qg q0v [(.i (qt [[(.s x0),(.s x1),(.s x2)],[(.s x3),(.s x4),(.s x5)]])),(.i 0),(.s x0),(.s x1),(.s x2),(.s x3),(.s x4),(.s x5),(.r [[(.s x0),(.s x1),(.s x2)],[(.s x3),(.s x4),(.s x5)]])])
 .br (okR r0) (.br (jIs r0 0) (let r1:TR:=(qL [(.s (gS r0 0)),(.s (gS r0 1)),(.s (gS r0 2)),(.s (gS r0 3)),(.s (gS r0 4)),(.s (gS r0 5)),(.i 0)])
 .br (okR r1) (.br (gB r1 0) (.br (ine (gI r1 1) 0) (.leaf (0,[(.i 0),(.i (gI r1 1))])) (.leaf (0,[(.i 2),(.i 0)]))) (let r2:TR:=(qL [(.s (gS r0 3)),(.s (gS r0 4)),(.s (gS r0 5)),(.s (gS r0 0)),(.s (gS r0 1)),(.s (gS r0 2)),(.i (gI r1 1))])
 .br (okR r2) (.br (gB r2 0) (.br (ine (gI r2 1) 0) (.leaf (0,[(.i 0),(.i (gI r2 1))])) (.leaf (0,[(.i 3),(.i 0)]))) (let r3:TR:=(wV [(.s (gS r0 0)),(.s (gS r0 1)),(.s (gS r0 2)),(.s (gS r0 3)),(.s (gS r0 4)),(.s (gS r0 5)),(.s [45,50]),(.i (gI r2 1))])
 .br (okR r3) (.br (ine (gI r3 1) 0) (.leaf (0,[(.i 0),(.i (gI r3 1))])) (.leaf (0,[(.i (qA .i64 0 (gI r3 0))),(.i 0)]))) .fail)) .fail)) .fail) (.leaf (0,[(.i (gI r0 0)),(.i (gI r0 1))]))) .fail):=by kernel_rfl
theorem qmx  : q1K []=(let r0:TR:=(wG [(.s [48]),(.s [48]),(.s [52])])
 .br (okR r0) (let r1:TR:=(wG [(.s [52]),(.s [48]),(.s [52])])
 .br (okR r1) (let r2:TR:=(q0O [(.r [[(.s (gS r0 0)),(.s (gS r0 1)),(.s (gS r0 2))],[(.s (gS r1 0)),(.s (gS r1 1)),(.s (gS r1 2))]])])
 .br (okR r2) (let r3:TR:=(wG [(.s [48]),(.s [48]),(.s [53])])
 .br (okR r3) (let r4:TR:=(wG [(.s [52]),(.s [48]),(.s [53])])
 .br (okR r4) (let r5:TR:=(q0O [(.r [[(.s (gS r3 0)),(.s (gS r3 1)),(.s (gS r3 2))],[(.s (gS r4 0)),(.s (gS r4 1)),(.s (gS r4 2))]])])
 .br (okR r5) (let r6:TR:=(wG [(.s [48]),(.s [48]),(.s [49])])
 .br (okR r6) (let r7:TR:=(wG [(.s [52]),(.s [48]),(.s [49])])
 .br (okR r7) (let r8:TR:=(qZ [(.r [[(.s (gS r6 0)),(.s (gS r6 1)),(.s (gS r6 2))],[(.s (gS r7 0)),(.s (gS r7 1)),(.s (gS r7 2))]])])
 .br (okR r8) (.br (okR r6) (let r9:TR:=(wG [(.s [50]),(.s [48]),(.s [49])])
 .br (okR r9) (let r10:TR:=(wG [(.s [49]),(.s [53,47,51]),(.s [49])])
 .br (okR r10) (let r11:TR:=(qZ [(.r [[(.s (gS r6 0)),(.s (gS r6 1)),(.s (gS r6 2))],[(.s (gS r9 0)),(.s (gS r9 1)),(.s (gS r9 2))],[(.s (gS r10 0)),(.s (gS r10 1)),(.s (gS r10 2))]])])
 .br (okR r11) (.br (okR r6) (let r12:TR:=(wG [(.s [49]),(.s [48]),(.s [52])])
 .br (okR r12) (let r13:TR:=(q2T [(.s (gS r6 0)),(.s (gS r6 1)),(.s (gS r6 2)),(.s (gS r12 0)),(.s (gS r12 1)),(.s (gS r12 2))])
 .br (okR r13) (.br (ieq (qh .i64 (qh .i64 (qh .i64 (qh .i64 (gI r2 4) (gI r5 4)) (gI r8 1)) (gI r11 1)) (gI r13 1)) 0) (.br (gB r2 0) (.br (quc (ieq (gI r2 1) 0) (quc (ieq (gI r2 2) 1) (quc (ieq (gI r2 3) 0) true))) (.br (gB r5 0) (.br (quc (ieq (gI r5 1) 0) (quc (ieq (gI r5 2) 1) (quc (ieq (gI r5 3) 1) true))) (let r14:TR:=(zY [(.r (gR r8 0)),(.r [[(.i 0)],[(.i 1)]])])
 .br (okR r14) (.br (gB r14 0) (let r15:TR:=(zY [(.r (gR r11 0)),(.r [[(.i 0)],[(.i 1)],[(.i 2)]])])
 .br (okR r15) (.br (gB r15 0) (.leaf (0,[(.b (ieq (gI r13 0) 2))])) (.leaf (0,[(.b false)]))) .fail) (.leaf (0,[(.b false)]))) .fail) (.leaf (0,[(.b false)]))) (.leaf (0,[(.b false)]))) (.leaf (0,[(.b false)]))) (.leaf (0,[(.b false)]))) (.leaf (0,[(.b false)]))) .fail) .fail) .fail) .fail) .fail) .fail) .fail) .fail) .fail) .fail) .fail) .fail) .fail) .fail) .fail) .fail):=by kernel_rfl
theorem qk1(y0:List UInt8)(y1:Int):q1p [.s y0,.i y1]=(.br (ilt y1 (ql y0)) (.br (inb y1 (ql y0)) (.br (ieq (sat y0 y1) 47) (.leaf (2,[(.i y1)])) (.leaf (0,[(.s y0),(.i (qh .i64 y1 1))]))) .fail) (.leaf (1,[]))):=by kernel_rfl
theorem qms(x0:List UInt8):q0h [.s x0]=(let r0:TR:=(qg q1p [(.s x0),(.i 0)])
 .br (okR r0) (.br (jIs r0 0) (.leaf (0,[(.i (-1))])) (.leaf (0,[(.i (gI r0 0))]))) .fail):=by kernel_rfl
theorem qn1(x0:List UInt8):vn [.s x0]=(let r0:TR:=(q0h [(.s x0)])
 .br (okR r0) (.br (ilt (gI r0 0) 0) (.leaf (0,[(.s x0),(.s [49])])) (.br (q5v (gI r0 0) (ql x0)) (.br (q5v 0 (gI r0 0)) (.br (q5v (ql x0) (ql x0)) (.br (q5v (qh .i64 (gI r0 0) 1) (ql x0)) (.leaf (0,[(.s (q9J x0 0 (gI r0 0))),(.s (q9J x0 (qh .i64 (gI r0 0) 1) (ql x0)))])) .fail) .fail) .fail) .fail)) .fail):=by kernel_rfl
theorem qhI(x0:List UInt8):qo [.s x0]=(.br (not (seq x0 [])) (.br (inb 0 (ql x0)) (.br (ieq (sat x0 0) 45) (.br (q5v (ql x0) (ql x0)) (.br (q5v 1 (ql x0)) (.leaf (0,[(.s (q9J x0 1 (ql x0)))])) .fail) .fail) (.leaf (0,[(.s x0)]))) .fail) (.leaf (0,[(.s x0)]))):=by kernel_rfl
theorem qjI(y0:List UInt8)(y1:Int):kt [.s y0,.i y1]=(.br (ilt y1 (ql y0)) (.br (inb y1 (ql y0)) (.br (ilt (sat y0 y1) 48) (.leaf (2,[(.i 3)])) (.br (inb y1 (ql y0)) (.br (ilt 57 (sat y0 y1)) (.leaf (2,[(.i 3)])) (.leaf (0,[(.s y0),(.i (qh .i64 y1 1))]))) .fail)) .fail) (.leaf (1,[(.s y0)]))):=by kernel_rfl
theorem qmA(x0:List UInt8):q1I [.s x0]=(let r0:TR:=(qo [(.s x0)])
 .br (okR r0) (.br (seq (gS r0 0) []) (.leaf (0,[(.i 3)])) (.br (inb 0 (ql (gS r0 0))) (.br (ieq (sat (gS r0 0) 0) 48) (.br (ilt 1 (ql (gS r0 0))) (.leaf (0,[(.i 3)])) (.br (ilt 1 (ql x0)) (.leaf (0,[(.i 3)])) (let r1:TR:=(qg kt [(.s (gS r0 0)),(.i 0)])
 .br (okR r1) (.br (jIs r1 0) (.br (ilt 1024 (ql (gS r1 0))) (.leaf (0,[(.i 11)])) (.leaf (0,[(.i 0)]))) (.leaf (0,[(.i (gI r1 0))]))) .fail))) (let r1:TR:=(qg kt [(.s (gS r0 0)),(.i 0)])
 .br (okR r1) (.br (jIs r1 0) (.br (ilt 1024 (ql (gS r1 0))) (.leaf (0,[(.i 11)])) (.leaf (0,[(.i 0)]))) (.leaf (0,[(.i (gI r1 0))]))) .fail)) .fail)) .fail):=by kernel_rfl
theorem qmk(x0:List UInt8):qC [.s x0]=(.br (inb 0 (ql x0)) (.leaf (0,[(.b (ieq (sat x0 0) 45))])) .fail):=by kernel_rfl
theorem qkk(x0:List UInt8)(x1:Bool):qJ [.s x0,.b x1]=(.br x1 (.br (not (seq x0 [48])) (.br (ile ((ql [45])+(ql x0)) 140737488355328) (.leaf (0,[(.s (qaw [45] x0))])) .fail) (.leaf (0,[(.s x0)]))) (.leaf (0,[(.s x0)]))):=by kernel_rfl
theorem qlO(x0:List UInt8):zx [.s x0]=(let r0:TR:=(qo [(.s x0)])
 .br (okR r0) (let r1:TR:=(qC [(.s x0)])
 .br (okR r1) (let r2:TR:=(qJ [(.s (gS r0 0)),(.b (not (gB r1 0)))])
 .br (okR r2) (.leaf (0,[(.s (gS r2 0))])) .fail) .fail) .fail):=by kernel_rfl
theorem qmW(y0:Int)(y1:List UInt8):q4K [.i y0,.s y1]=(.br (ilt 9 y0) (.br (ile ((ql (qeC [[(.i (vu .u8 (qh .i64 48 (q4Q y0 10))))]]))+(ql y1)) 140737488355328) (.leaf (0,[(.i (jG .i64 y0 10)),(.s (qaw (qeC [[(.i (vu .u8 (qh .i64 48 (q4Q y0 10))))]]) y1))])) .fail) (.leaf (1,[(.i y0),(.s y1)]))):=by kernel_rfl
theorem qpP(x0:Int):q3q [.i x0]=(.br (ieq x0 (qA .i64 0 x0)) (.br (ine x0 0) (.leaf (0,[(.s [45,57,50,50,51,51,55,50,48,51,54,56,53,52,55,55,53,56,48,56])])) (.br (ilt x0 0) .fail (let r0:TR:=(qg q4K [(.i x0),(.s [])])
 .br (okR r0) (.br (ile ((ql (qeC [[(.i (vu .u8 (qh .i64 48 (gI r0 0))))]]))+(ql (gS r0 1))) 140737488355328) (.leaf (0,[(.s (qaw (qeC [[(.i (vu .u8 (qh .i64 48 (gI r0 0))))]]) (gS r0 1)))])) .fail) .fail))) (.br (ilt x0 0) .fail (let r0:TR:=(qg q4K [(.i x0),(.s [])])
 .br (okR r0) (.br (ile ((ql (qeC [[(.i (vu .u8 (qh .i64 48 (gI r0 0))))]]))+(ql (gS r0 1))) 140737488355328) (.leaf (0,[(.s (qaw (qeC [[(.i (vu .u8 (qh .i64 48 (gI r0 0))))]]) (gS r0 1)))])) .fail) .fail))):=by kernel_rfl
theorem qoh(y0:Int)(y1:List UInt8):q5X [.i y0,.s y1]=(.br (ilt 9 y0) (.br (ile ((ql (qeC [[(.i (vu .u8 (qh .i64 48 (q4Q y0 10))))]]))+(ql y1)) 140737488355328) (.leaf (0,[(.i (jG .i64 y0 10)),(.s (qaw (qeC [[(.i (vu .u8 (qh .i64 48 (q4Q y0 10))))]]) y1))])) .fail) (.leaf (1,[(.i y0),(.s y1)]))):=by kernel_rfl
theorem qln(x0:Int):zO [.i x0]=(.br (ieq x0 (qA .i64 0 x0)) (.br (ine x0 0) (.leaf (0,[(.s [45,57,50,50,51,51,55,50,48,51,54,56,53,52,55,55,53,56,48,56])])) (.br (ilt x0 0) (let r0:TR:=(q3q [(.i (qA .i64 0 x0))])
 .br (okR r0) (let r1:TR:=(zx [(.s (gS r0 0))])
 .br (okR r1) (.leaf (0,[(.s (gS r1 0))])) .fail) .fail) (let r0:TR:=(qg q5X [(.i x0),(.s [])])
 .br (okR r0) (.br (ile ((ql (qeC [[(.i (vu .u8 (qh .i64 48 (gI r0 0))))]]))+(ql (gS r0 1))) 140737488355328) (.leaf (0,[(.s (qaw (qeC [[(.i (vu .u8 (qh .i64 48 (gI r0 0))))]]) (gS r0 1)))])) .fail) .fail))) (.br (ilt x0 0) (let r0:TR:=(q3q [(.i (qA .i64 0 x0))])
 .br (okR r0) (let r1:TR:=(zx [(.s (gS r0 0))])
 .br (okR r1) (.leaf (0,[(.s (gS r1 0))])) .fail) .fail) (let r0:TR:=(qg q5X [(.i x0),(.s [])])
 .br (okR r0) (.br (ile ((ql (qeC [[(.i (vu .u8 (qh .i64 48 (gI r0 0))))]]))+(ql (gS r0 1))) 140737488355328) (.leaf (0,[(.s (qaw (qeC [[(.i (vu .u8 (qh .i64 48 (gI r0 0))))]]) (gS r0 1)))])) .fail) .fail))):=by kernel_rfl
theorem qaK(y0:List UInt8)(y1:Int)(y2:List UInt8)(y3:Int):yG [.s y0,.i y1,.s y2,.i y3]=(.br (ilt y3 (ql y2)) (.br (inb y3 (ql y2)) (.leaf (0,[(.s y0),(.i (qh .i64 (uM .i64 10 y1) (vu .i64 (qA .u8 (sat y2 y3) 48)))),(.s y2),(.i (qh .i64 y3 1))])) .fail) (.leaf (1,[(.s y0),(.i y1)]))):=by kernel_rfl
theorem qlr(x0:List UInt8):jQ [.s x0]=(let r0:TR:=(qo [(.s x0)])
 .br (okR r0) (let r1:TR:=(qg yG [(.s x0),(.i 0),(.s (gS r0 0)),(.i 0)])
 .br (okR r1) (let r2:TR:=(qC [(.s (gS r1 0))])
 .br (okR r2) (.br (gB r2 0) (.leaf (0,[(.i (qA .i64 0 (gI r1 1)))])) (.leaf (0,[(.i (gI r1 1))]))) .fail) .fail) .fail):=by kernel_rfl
theorem qmy(x0:List UInt8)(x1:List UInt8):zN [.s x0,.s x1]=(.br (okR (qo [(.s x0)])) (.br (ilt 18 (ql (gS (qo [(.s x0)]) 0))) (.leaf (0,[(.i 0),(.i 0),(.b false)])) (.br (okR (qo [(.s x1)])) (.br (ilt 18 (ql (gS (qo [(.s x1)]) 0))) (.leaf (0,[(.i 0),(.i 0),(.b false)])) (.br (okR (jQ [(.s x0)])) (.br (okR (jQ [(.s x1)])) (.leaf (0,[(.i (gI (jQ [(.s x0)]) 0)),(.i (gI (jQ [(.s x1)]) 0)),(.b true)])) .fail) .fail)) .fail)) .fail):=by kernel_rfl
theorem qdM(y0:List UInt8)(y1:Int)(y2:Int)(y3:R):q0I [.s y0,.i y1,.i y2,.r y3]=(.br (ilt y2 y1) (.br (inb y2 (qt y3)) (.leaf (0,[(.s y0),(.i y1),(.i (qh .i64 y2 1)),(.r (qbm y3 y2 0 [(.i 48)]))])) .fail) (.leaf (1,[(.s y0),(.i y1),(.r y3)]))):=by kernel_rfl
theorem qoz(x0:List UInt8)(x1:Int):q1j [.s x0,.i x1]=(.br (ieq x1 x1) (.br (q5v x1 140737488355328) (let r0:TR:=(qg q0I [(.s x0),(.i x1),(.i 0),(.r (q2n x1 [(.i 0)]))])
 .br (okR r0) (.br (ilt 0 (qt (gR r0 2))) (.br (q5v (qA .i64 (gI r0 1) (ql (gS r0 0))) (qt (gR r0 2))) (.br (ile (ql (gS r0 0)) (qs4 (qt (gR r0 2)) (qA .i64 (gI r0 1) (ql (gS r0 0))))) (.leaf (0,[(.s (qeC (qqM (gR r0 2) (qA .i64 (gI r0 1) (ql (gS r0 0))) (gS r0 0))))])) .fail) .fail) .fail) .fail) .fail) .fail):=by kernel_rfl
theorem qlQ(x0:Int)(x1:Int)(x2:Int)(x3:Bool):q0H [.i x0,.i x1,.i x2,.b x3]=(.br x3 (.br (ilt 9 (qh .i64 (qh .i64 (vu .i64 (qA .u8 x0 48)) (vu .i64 (qA .u8 x1 48))) x2)) (.leaf (0,[(.i (vu .u8 (qA .i64 (qh .i64 48 (qh .i64 (qh .i64 (vu .i64 (qA .u8 x0 48)) (vu .i64 (qA .u8 x1 48))) x2)) 10))),(.i 1)])) (.br (ilt (qh .i64 (qh .i64 (vu .i64 (qA .u8 x0 48)) (vu .i64 (qA .u8 x1 48))) x2) 0) (.leaf (0,[(.i (vu .u8 (qh .i64 (qh .i64 48 (qh .i64 (qh .i64 (vu .i64 (qA .u8 x0 48)) (vu .i64 (qA .u8 x1 48))) x2)) 10))),(.i 1)])) (.leaf (0,[(.i (vu .u8 (qh .i64 48 (qh .i64 (qh .i64 (vu .i64 (qA .u8 x0 48)) (vu .i64 (qA .u8 x1 48))) x2)))),(.i 0)])))) (.br (ilt 9 (qA .i64 (qA .i64 (vu .i64 (qA .u8 x0 48)) (vu .i64 (qA .u8 x1 48))) x2)) (.leaf (0,[(.i (vu .u8 (qA .i64 (qh .i64 48 (qA .i64 (qA .i64 (vu .i64 (qA .u8 x0 48)) (vu .i64 (qA .u8 x1 48))) x2)) 10))),(.i 1)])) (.br (ilt (qA .i64 (qA .i64 (vu .i64 (qA .u8 x0 48)) (vu .i64 (qA .u8 x1 48))) x2) 0) (.leaf (0,[(.i (vu .u8 (qh .i64 (qh .i64 48 (qA .i64 (qA .i64 (vu .i64 (qA .u8 x0 48)) (vu .i64 (qA .u8 x1 48))) x2)) 10))),(.i 1)])) (.leaf (0,[(.i (vu .u8 (qh .i64 48 (qA .i64 (qA .i64 (vu .i64 (qA .u8 x0 48)) (vu .i64 (qA .u8 x1 48))) x2)))),(.i 0)]))))):=by kernel_rfl
theorem qkS(y0:List UInt8):q2x [.s y0]=(.br (ilt 1 (ql y0)) (.br (inb 0 (ql y0)) (.br (ieq (sat y0 0) 48) (.br (q5v (ql y0) (ql y0)) (.br (q5v 1 (ql y0)) (.leaf (0,[(.s (q9J y0 1 (ql y0)))])) .fail) .fail) (.leaf (1,[(.s y0)]))) .fail) (.leaf (1,[(.s y0)]))):=by kernel_rfl
theorem qpa(x0:List UInt8):zy [.s x0]=(let r0:TR:=(qg q2x [(.s x0)])
 .br (okR r0) (.leaf (0,[(.s (gS r0 0))])) .fail):=by kernel_rfl
theorem qjJ(y0:List UInt8)(y1:List UInt8)(y2:Bool)(y3:Int)(y4:Int)(y5:R):kJ [.s y0,.s y1,.b y2,.i y3,.i y4,.r y5]=(.br (ile 0 y4) (.br (inb y4 (ql y0)) (.br (inb y4 (ql y1)) (let r0:TR:=(q0H [(.i (sat y0 y4)),(.i (sat y1 y4)),(.i y3),(.b y2)])
 .br (okR r0) (.br (inb y4 (qt y5)) (.leaf (0,[(.s y0),(.s y1),(.b y2),(.i (gI r0 1)),(.i (qA .i64 y4 1)),(.r (qbm y5 y4 0 [(.i (gI r0 0))]))])) .fail) .fail) .fail) .fail) (.leaf (1,[(.r y5)]))):=by kernel_rfl
theorem qna(x0:List UInt8)(x1:List UInt8)(x2:Bool):vb [.s x0,.s x1,.b x2]=(let r0:TR:=(q1j [(.s x0),(.i (qh .i64 (qd5 (ql x0) (ql x1)) 1))])
 .br (okR r0) (let r1:TR:=(q1j [(.s x1),(.i (qh .i64 (qd5 (ql x0) (ql x1)) 1))])
 .br (okR r1) (.br (ieq (qh .i64 (qd5 (ql x0) (ql x1)) 1) (qh .i64 (qd5 (ql x0) (ql x1)) 1)) (.br (q5v (qh .i64 (qd5 (ql x0) (ql x1)) 1) 140737488355328) (let r2:TR:=(qg kJ [(.s (gS r0 0)),(.s (gS r1 0)),(.b x2),(.i 0),(.i (qA .i64 (qh .i64 (qd5 (ql x0) (ql x1)) 1) 1)),(.r (q2n (qh .i64 (qd5 (ql x0) (ql x1)) 1) [(.i 0)]))])
 .br (okR r2) (let r3:TR:=(zy [(.s (qeC (gR r2 0)))])
 .br (okR r3) (.leaf (0,[(.s (gS r3 0))])) .fail) .fail) .fail) .fail) .fail) .fail):=by kernel_rfl
theorem qp1(x0:List UInt8)(x1:List UInt8):u4 [.s x0,.s x1]=(.br (ilt (ql x0) (ql x1)) (.leaf (0,[(.b true)])) (.br (ieq (ql x0) (ql x1)) (.leaf (0,[(.b (slt x0 x1))])) (.leaf (0,[(.b false)])))):=by kernel_rfl
theorem qp3(x0:List UInt8)(x1:List UInt8):q1k [.s x0,.s x1]=(let r0:TR:=(zN [(.s x0),(.s x1)])
 .br (okR r0) (.br (gB r0 2) (let r1:TR:=(zO [(.i (qh .i64 (gI r0 0) (gI r0 1)))])
 .br (okR r1) (.leaf (0,[(.s (gS r1 0))])) .fail) (let r1:TR:=(qo [(.s x0)])
 .br (okR r1) (let r2:TR:=(qo [(.s x1)])
 .br (okR r2) (let r3:TR:=(qC [(.s x0)])
 .br (okR r3) (let r4:TR:=(qC [(.s x1)])
 .br (okR r4) (.br (beq (gB r3 0) (gB r4 0)) (let r5:TR:=(vb [(.s (gS r1 0)),(.s (gS r2 0)),(.b true)])
 .br (okR r5) (.br (okR r3) (let r6:TR:=(qJ [(.s (gS r5 0)),(.b (gB r3 0))])
 .br (okR r6) (.leaf (0,[(.s (gS r6 0))])) .fail) .fail) .fail) (let r5:TR:=(u4 [(.s (gS r1 0)),(.s (gS r2 0))])
 .br (okR r5) (.br (gB r5 0) (let r6:TR:=(vb [(.s (gS r2 0)),(.s (gS r1 0)),(.b false)])
 .br (okR r6) (.br (okR r4) (let r7:TR:=(qJ [(.s (gS r6 0)),(.b (gB r4 0))])
 .br (okR r7) (.leaf (0,[(.s (gS r7 0))])) .fail) .fail) .fail) (let r6:TR:=(vb [(.s (gS r1 0)),(.s (gS r2 0)),(.b false)])
 .br (okR r6) (.br (okR r3) (let r7:TR:=(qJ [(.s (gS r6 0)),(.b (gB r3 0))])
 .br (okR r7) (.leaf (0,[(.s (gS r7 0))])) .fail) .fail) .fail)) .fail)) .fail) .fail) .fail) .fail)) .fail):=by kernel_rfl
theorem qmq(x0:List UInt8)(x1:List UInt8):wy [.s x0,.s x1]=(let r0:TR:=(zx [(.s x1)])
 .br (okR r0) (let r1:TR:=(q1k [(.s x0),(.s (gS r0 0))])
 .br (okR r1) (.leaf (0,[(.s (gS r1 0))])) .fail) .fail):=by kernel_rfl
theorem qml(x0:List UInt8)(x1:List UInt8):jF [.s x0,.s x1]=(let r0:TR:=(wy [(.s x0),(.s x1)])
 .br (okR r0) (.br (seq (gS r0 0) [48]) (.leaf (0,[(.i 0)])) (let r1:TR:=(qC [(.s (gS r0 0))])
 .br (okR r1) (.br (gB r1 0) (.leaf (0,[(.i (-1))])) (.leaf (0,[(.i 1)]))) .fail)) .fail):=by kernel_rfl
theorem qgM(y0:List UInt8)(y1:List UInt8)(y2:Int)(y3:Int)(y4:R):jZ [.s y0,.s y1,.i y2,.i y3,.r y4]=(.br (ilt y3 (ql y1)) (.br (inb (qh .i64 (qh .i64 y2 y3) 1) (qt y4)) (.br (inb y2 (ql y0)) (.br (inb y3 (ql y1)) (.br (inb (qh .i64 (qh .i64 y2 y3) 1) (qt y4)) (.leaf (0,[(.s y0),(.s y1),(.i y2),(.i (qh .i64 y3 1)),(.r (qbm y4 (qh .i64 (qh .i64 y2 y3) 1) 0 [(.i (qh .i64 (cI y4 (qh .i64 (qh .i64 y2 y3) 1) 0) (uM .i64 (vu .i64 (qA .u8 (sat y0 y2) 48)) (vu .i64 (qA .u8 (sat y1 y3) 48)))))]))])) .fail) .fail) .fail) .fail) (.leaf (1,[(.s y0),(.s y1),(.i y2),(.r y4)]))):=by kernel_rfl
theorem qhb(y0:List UInt8)(y1:List UInt8)(y2:Int)(y3:R):jV [.s y0,.s y1,.i y2,.r y3]=(.br (ilt y2 (ql y0)) (let r0:TR:=(qg jZ [(.s y0),(.s y1),(.i y2),(.i 0),(.r y3)])
 .br (okR r0) (.leaf (0,[(.s (gS r0 0)),(.s (gS r0 1)),(.i (qh .i64 (gI r0 2) 1)),(.r (gR r0 3))])) .fail) (.leaf (1,[(.r y3)]))):=by kernel_rfl
theorem qgi(y0:Int)(y1:Int)(y2:R)(y3:R):jj [.i y0,.i y1,.r y2,.r y3]=(.br (ile 0 y1) (.br (inb y1 (qt y2)) (.br (inb y1 (qt y3)) (.leaf (0,[(.i (jG .i64 (qh .i64 y0 (cI y2 y1 0)) 10)),(.i (qA .i64 y1 1)),(.r y2),(.r (qbm y3 y1 0 [(.i (vu .u8 (qh .i64 48 (q4Q (qh .i64 y0 (cI y2 y1 0)) 10))))]))])) .fail) .fail) (.leaf (1,[(.r y3)]))):=by kernel_rfl
theorem qjU(x0:List UInt8)(x1:List UInt8):kg [.s x0,.s x1]=(.br (ieq (qh .i64 (ql x0) (ql x1)) (qh .i64 (ql x0) (ql x1))) (.br (q5v (qh .i64 (ql x0) (ql x1)) 17592186044416) (let r0:TR:=(qg jV [(.s x0),(.s x1),(.i 0),(.r (q2n (qh .i64 (ql x0) (ql x1)) [(.i 0)]))])
 .br (okR r0) (.br (ieq (qt (gR r0 0)) (qt (gR r0 0))) (.br (q5v (qt (gR r0 0)) 140737488355328) (let r1:TR:=(qg jj [(.i 0),(.i (qA .i64 (qt (gR r0 0)) 1)),(.r (gR r0 0)),(.r (q2n (qt (gR r0 0)) [(.i 0)]))])
 .br (okR r1) (let r2:TR:=(zy [(.s (qeC (gR r1 0)))])
 .br (okR r2) (.leaf (0,[(.s (gS r2 0))])) .fail) .fail) .fail) .fail) .fail) .fail) .fail):=by kernel_rfl
theorem qmu(x0:List UInt8)(x1:List UInt8):zL [.s x0,.s x1]=(let r0:TR:=(zN [(.s x0),(.s x1)])
 .br (okR r0) (.br (gB r0 2) (.br (ile (qh .i64 (ql x0) (ql x1)) 18) (let r1:TR:=(zO [(.i (uM .i64 (gI r0 0) (gI r0 1)))])
 .br (okR r1) (.leaf (0,[(.s (gS r1 0))])) .fail) (let r1:TR:=(qo [(.s x0)])
 .br (okR r1) (let r2:TR:=(qo [(.s x1)])
 .br (okR r2) (let r3:TR:=(kg [(.s (gS r1 0)),(.s (gS r2 0))])
 .br (okR r3) (let r4:TR:=(qC [(.s x0)])
 .br (okR r4) (let r5:TR:=(qC [(.s x1)])
 .br (okR r5) (let r6:TR:=(qJ [(.s (gS r3 0)),(.b (not (beq (gB r4 0) (gB r5 0))))])
 .br (okR r6) (.leaf (0,[(.s (gS r6 0))])) .fail) .fail) .fail) .fail) .fail) .fail)) (let r1:TR:=(qo [(.s x0)])
 .br (okR r1) (let r2:TR:=(qo [(.s x1)])
 .br (okR r2) (let r3:TR:=(kg [(.s (gS r1 0)),(.s (gS r2 0))])
 .br (okR r3) (let r4:TR:=(qC [(.s x0)])
 .br (okR r4) (let r5:TR:=(qC [(.s x1)])
 .br (okR r5) (let r6:TR:=(qJ [(.s (gS r3 0)),(.b (not (beq (gB r4 0) (gB r5 0))))])
 .br (okR r6) (.leaf (0,[(.s (gS r6 0))])) .fail) .fail) .fail) .fail) .fail) .fail)) .fail):=by kernel_rfl
theorem qge(y0:List UInt8)(y1:List UInt8)(y2:List UInt8)(y3:List UInt8)(y4:Int)(y5:Int):je [.s y0,.s y1,.s y2,.s y3,.i y4,.i y5]=(let r0:TR:=(u4 [(.s y3),(.s y1)])
 .br (okR r0) (.br (not (gB r0 0)) (let r1:TR:=(vb [(.s y3),(.s y1),(.b false)])
 .br (okR r1) (.leaf (0,[(.s y0),(.s y1),(.s y2),(.s (gS r1 0)),(.i y4),(.i (qh .u8 y5 1))])) .fail) (.leaf (1,[(.s y0),(.s y1),(.s y2),(.s y3),(.i y4),(.i y5)]))) .fail):=by kernel_rfl
theorem qgI(y0:List UInt8)(y1:List UInt8)(y2:List UInt8)(y3:List UInt8)(y4:Int):kH [.s y0,.s y1,.s y2,.s y3,.i y4]=(.br (ilt y4 (ql y0)) (.br (q5v (qh .i64 y4 1) (ql y0)) (.br (q5v y4 (qh .i64 y4 1)) (.br (ile ((ql y3)+(ql (q9J y0 y4 (qh .i64 y4 1)))) 140737488355328) (let r0:TR:=(zy [(.s (qaw y3 (q9J y0 y4 (qh .i64 y4 1))))])
 .br (okR r0) (let r1:TR:=(qg je [(.s y0),(.s y1),(.s y2),(.s (gS r0 0)),(.i y4),(.i 48)])
 .br (okR r1) (.br (ile ((ql (gS r1 2))+(ql (qeC [[(.i (gI r1 5))]]))) 140737488355328) (.leaf (0,[(.s (gS r1 0)),(.s (gS r1 1)),(.s (qaw (gS r1 2) (qeC [[(.i (gI r1 5))]]))),(.s (gS r1 3)),(.i (qh .i64 (gI r1 4) 1))])) .fail) .fail) .fail) .fail) .fail) .fail) (.leaf (1,[(.s y2),(.s y3)]))):=by kernel_rfl
theorem qjM(x0:List UInt8)(x1:List UInt8):q1e [.s x0,.s x1]=(let r0:TR:=(qg kH [(.s x0),(.s x1),(.s []),(.s [48]),(.i 0)])
 .br (okR r0) (let r1:TR:=(zy [(.s (gS r0 0))])
 .br (okR r1) (.leaf (0,[(.s (gS r1 0)),(.s (gS r0 1))])) .fail) .fail):=by kernel_rfl
theorem qkq(x0:List UInt8)(x1:List UInt8):zF [.s x0,.s x1]=(let r0:TR:=(zN [(.s x0),(.s x1)])
 .br (okR r0) (.br (gB r0 2) (.br (ine (gI r0 1) 0) (.br (ine (q4Q (gI r0 0) (gI r0 1)) 0) (.br (not (beq (ilt (q4Q (gI r0 0) (gI r0 1)) 0) (ilt (gI r0 1) 0))) (.br (ine (gI r0 1) 0) (let r1:TR:=(zO [(.i (jG .i64 (qA .i64 (gI r0 0) (qh .i64 (q4Q (gI r0 0) (gI r0 1)) (gI r0 1))) (gI r0 1)))])
 .br (okR r1) (let r2:TR:=(zO [(.i (qh .i64 (q4Q (gI r0 0) (gI r0 1)) (gI r0 1)))])
 .br (okR r2) (.leaf (0,[(.s (gS r1 0)),(.s (gS r2 0))])) .fail) .fail) .fail) (.br (ine (gI r0 1) 0) (let r1:TR:=(zO [(.i (jG .i64 (qA .i64 (gI r0 0) (q4Q (gI r0 0) (gI r0 1))) (gI r0 1)))])
 .br (okR r1) (let r2:TR:=(zO [(.i (q4Q (gI r0 0) (gI r0 1)))])
 .br (okR r2) (.leaf (0,[(.s (gS r1 0)),(.s (gS r2 0))])) .fail) .fail) .fail)) (.br (ine (gI r0 1) 0) (let r1:TR:=(zO [(.i (jG .i64 (qA .i64 (gI r0 0) (q4Q (gI r0 0) (gI r0 1))) (gI r0 1)))])
 .br (okR r1) (let r2:TR:=(zO [(.i (q4Q (gI r0 0) (gI r0 1)))])
 .br (okR r2) (.leaf (0,[(.s (gS r1 0)),(.s (gS r2 0))])) .fail) .fail) .fail)) .fail) (let r1:TR:=(qo [(.s x0)])
 .br (okR r1) (let r2:TR:=(qo [(.s x1)])
 .br (okR r2) (let r3:TR:=(q1e [(.s (gS r1 0)),(.s (gS r2 0))])
 .br (okR r3) (let r4:TR:=(qC [(.s x0)])
 .br (okR r4) (let r5:TR:=(qC [(.s x1)])
 .br (okR r5) (let r6:TR:=(qJ [(.s (gS r3 0)),(.b (not (beq (gB r4 0) (gB r5 0))))])
 .br (okR r6) (.br (not (seq (gS r3 1) [48])) (.br (okR r4) (.br (okR r5) (.br (not (beq (gB r4 0) (gB r5 0))) (let r7:TR:=(wy [(.s (gS r6 0)),(.s [49])])
 .br (okR r7) (let r8:TR:=(zL [(.s (gS r7 0)),(.s x1)])
 .br (okR r8) (let r9:TR:=(wy [(.s x0),(.s (gS r8 0))])
 .br (okR r9) (.leaf (0,[(.s (gS r7 0)),(.s (gS r9 0))])) .fail) .fail) .fail) (let r7:TR:=(zL [(.s (gS r6 0)),(.s x1)])
 .br (okR r7) (let r8:TR:=(wy [(.s x0),(.s (gS r7 0))])
 .br (okR r8) (.leaf (0,[(.s (gS r6 0)),(.s (gS r8 0))])) .fail) .fail)) .fail) .fail) (let r7:TR:=(zL [(.s (gS r6 0)),(.s x1)])
 .br (okR r7) (let r8:TR:=(wy [(.s x0),(.s (gS r7 0))])
 .br (okR r8) (.leaf (0,[(.s (gS r6 0)),(.s (gS r8 0))])) .fail) .fail)) .fail) .fail) .fail) .fail) .fail) .fail)) .fail):=by kernel_rfl
theorem qhT(y0:Int)(y1:Int):ye [.i y0,.i y1]=(.br (ilt 0 y1) (.br (ine y1 0) (.leaf (0,[(.i y1),(.i (q4Q y0 y1))])) .fail) (.leaf (1,[(.i y0)]))):=by kernel_rfl
theorem qiI(y0:List UInt8)(y1:List UInt8):q0w [.s y0,.s y1]=(.br (not (seq y1 [48])) (let r0:TR:=(zN [(.s y0),(.s y1)])
 .br (okR r0) (.br (gB r0 2) (let r1:TR:=(qg ye [(.i (gI r0 0)),(.i (gI r0 1))])
 .br (okR r1) (let r2:TR:=(zO [(.i (gI r1 0))])
 .br (okR r2) (.leaf (2,[(.s (gS r2 0))])) .fail) .fail) (let r1:TR:=(zF [(.s y0),(.s y1)])
 .br (okR r1) (.leaf (0,[(.s y1),(.s (gS r1 1))])) .fail)) .fail) (.leaf (1,[(.s y0)]))):=by kernel_rfl
theorem qm3(x0:List UInt8)(x1:List UInt8):uv [.s x0,.s x1]=(let r0:TR:=(qo [(.s x0)])
 .br (okR r0) (let r1:TR:=(qJ [(.s (gS r0 0)),(.b false)])
 .br (okR r1) (let r2:TR:=(qo [(.s x1)])
 .br (okR r2) (let r3:TR:=(qJ [(.s (gS r2 0)),(.b false)])
 .br (okR r3) (let r4:TR:=(qg q0w [(.s (gS r1 0)),(.s (gS r3 0))])
 .br (okR r4) (.br (jIs r4 0) (.leaf (0,[(.s (gS r4 0))])) (.leaf (0,[(.s (gS r4 0))]))) .fail) .fail) .fail) .fail) .fail):=by kernel_rfl
theorem qmn(x0:List UInt8):q1O [.s x0]=(let r0:TR:=(vn [(.s x0)])
 .br (okR r0) (let r1:TR:=(q1I [(.s (gS r0 0))])
 .br (okR r1) (.br (ieq (gI r1 0) 3) (.leaf (0,[(.i 3)])) (let r2:TR:=(q1I [(.s (gS r0 1))])
 .br (okR r2) (.br (ieq (gI r2 0) 3) (.leaf (0,[(.i 3)])) (.br (okR r1) (.br (ine (gI r1 0) 0) (.leaf (0,[(.i 11)])) (.br (okR r2) (.br (ine (gI r2 0) 0) (.leaf (0,[(.i 11)])) (let r3:TR:=(q0h [(.s x0)])
 .br (okR r3) (.br (ile 0 (gI r3 0)) (let r4:TR:=(jF [(.s (gS r0 1)),(.s [49])])
 .br (okR r4) (.br (ile (gI r4 0) 0) (.leaf (0,[(.i 3)])) (let r5:TR:=(uv [(.s (gS r0 0)),(.s (gS r0 1))])
 .br (okR r5) (.br (not (seq (gS r5 0) [49])) (.leaf (0,[(.i 3)])) (.leaf (0,[(.i 0)]))) .fail)) .fail) (.leaf (0,[(.i 0)]))) .fail)) .fail)) .fail)) .fail)) .fail) .fail):=by kernel_rfl
theorem qkZ(x0:List UInt8):zH [.s x0]=(let r0:TR:=(vn [(.s x0)])
 .br (okR r0) (let r1:TR:=(jF [(.s (gS r0 0)),(.s [48])])
 .br (okR r1) (.leaf (0,[(.i (gI r1 0))])) .fail) .fail):=by kernel_rfl
theorem q37(y0:Int)(y1:Int)(y2:List UInt8)(y3:List UInt8)(y4:List UInt8)(y5:R):q1E [.i y0,.i y1,.s y2,.s y3,.s y4,.r y5]=(.br (ilt y1 y0) (.br (inb y1 (qt y5)) (let r0:TR:=(q1O [(.s (cS y5 y1 0))])
 .br (okR r0) (.br (ine (gI r0 0) 0) (.leaf (2,[(.i (gI r0 0))])) (.leaf (0,[(.i y0),(.i (qh .i64 y1 1)),(.s y2),(.s y3),(.s y4),(.r y5)]))) .fail) .fail) (.leaf (1,[(.s y2),(.s y3),(.s y4)]))):=by kernel_rfl
theorem qmN(x0:List UInt8)(x1:List UInt8)(x2:List UInt8):q1H [.s x0,.s x1,.s x2]=(let r0:TR:=(qg q1E [(.i (qt [[(.s x0)],[(.s x1)],[(.s x2)]])),(.i 0),(.s x0),(.s x1),(.s x2),(.r [[(.s x0)],[(.s x1)],[(.s x2)]])])
 .br (okR r0) (.br (jIs r0 0) (let r1:TR:=(zH [(.s (gS r0 2))])
 .br (okR r1) (.br (ilt (gI r1 0) 0) (.leaf (0,[(.i 2)])) (.leaf (0,[(.i 0)]))) .fail) (.leaf (0,[(.i (gI r0 0))]))) .fail):=by kernel_rfl
theorem qdF(y0:R)(y1:Int):q2U [.r y0,.i y1]=(.br (ilt y1 (qt y0)) (.br (inb y1 (qt y0)) (let r0:TR:=(q1H [(.s (cS y0 y1 0)),(.s (cS y0 y1 1)),(.s (cS y0 y1 2))])
 .br (okR r0) (.br (ine (gI r0 0) 0) (.leaf (2,[(.i (gI r0 0))])) (.leaf (0,[(.r y0),(.i (qh .i64 y1 1))]))) .fail) .fail) (.leaf (1,[(.r y0)]))):=by kernel_rfl
theorem qo7(x0:R):kV [.r x0]=(.br (ilt 64 (qt x0)) (.leaf (0,[(.i 5)])) (let r0:TR:=(qg q2U [(.r x0),(.i 0)])
 .br (okR r0) (.br (jIs r0 0) (.br (ieq (qt (gR r0 0)) 0) (.leaf (0,[(.i 13)])) (.leaf (0,[(.i 0)]))) (.leaf (0,[(.i (gI r0 0))]))) .fail)):=by kernel_rfl
theorem qjQ(x0:List UInt8)(x1:List UInt8):zi [.s x0,.s x1]=(let r0:TR:=(vn [(.s x0)])
 .br (okR r0) (let r1:TR:=(vn [(.s x1)])
 .br (okR r1) (let r2:TR:=(zL [(.s (gS r0 0)),(.s (gS r1 1))])
 .br (okR r2) (let r3:TR:=(zL [(.s (gS r1 0)),(.s (gS r0 1))])
 .br (okR r3) (let r4:TR:=(zL [(.s (gS r0 1)),(.s (gS r1 1))])
 .br (okR r4) (let r5:TR:=(zL [(.s (gS r0 0)),(.s (gS r1 0))])
 .br (okR r5) (let r6:TR:=(zL [(.s (gS r0 1)),(.s (gS r1 0))])
 .br (okR r6) (.leaf (0,[(.r [[(.s (gS r2 0))],[(.s (gS r3 0))],[(.s (gS r4 0))],[(.s (gS r5 0))],[(.s (gS r6 0))]])])) .fail) .fail) .fail) .fail) .fail) .fail) .fail):=by kernel_rfl
theorem qlL(x0:List UInt8)(x1:List UInt8):wd [.s x0,.s x1]=(let r0:TR:=(uv [(.s x0),(.s x1)])
 .br (okR r0) (let r1:TR:=(qC [(.s x1)])
 .br (okR r1) (.br (gB r1 0) (let r2:TR:=(zx [(.s (gS r0 0))])
 .br (okR r2) (let r3:TR:=(zF [(.s x0),(.s (gS r2 0))])
 .br (okR r3) (let r4:TR:=(zF [(.s x1),(.s (gS r2 0))])
 .br (okR r4) (.br (seq (gS r4 0) [49]) (.leaf (0,[(.s (gS r3 0))])) (.br (ile ((ql (gS r3 0))+(ql [47])) 140737488355328) (.br (ile ((ql (qaw (gS r3 0) [47]))+(ql (gS r4 0))) 140737488355328) (.leaf (0,[(.s (qaw (qaw (gS r3 0) [47]) (gS r4 0)))])) .fail) .fail)) .fail) .fail) .fail) (let r2:TR:=(zF [(.s x0),(.s (gS r0 0))])
 .br (okR r2) (let r3:TR:=(zF [(.s x1),(.s (gS r0 0))])
 .br (okR r3) (.br (seq (gS r3 0) [49]) (.leaf (0,[(.s (gS r2 0))])) (.br (ile ((ql (gS r2 0))+(ql [47])) 140737488355328) (.br (ile ((ql (qaw (gS r2 0) [47]))+(ql (gS r3 0))) 140737488355328) (.leaf (0,[(.s (qaw (qaw (gS r2 0) [47]) (gS r3 0)))])) .fail) .fail)) .fail) .fail)) .fail) .fail):=by kernel_rfl
theorem qo0(x0:List UInt8)(x1:List UInt8):wL [.s x0,.s x1]=(let r0:TR:=(zi [(.s x0),(.s x1)])
 .br (okR r0) (.br (inb 0 (qt (gR r0 0))) (.br (inb 1 (qt (gR r0 0))) (let r1:TR:=(q1k [(.s (cS (gR r0 0) 0 0)),(.s (cS (gR r0 0) 1 0))])
 .br (okR r1) (.br (inb 2 (qt (gR r0 0))) (let r2:TR:=(wd [(.s (gS r1 0)),(.s (cS (gR r0 0) 2 0))])
 .br (okR r2) (.leaf (0,[(.s (gS r2 0))])) .fail) .fail) .fail) .fail) .fail) .fail):=by kernel_rfl
theorem qmz(x0:List UInt8)(x1:List UInt8):zm [.s x0,.s x1]=(let r0:TR:=(zi [(.s x0),(.s x1)])
 .br (okR r0) (.br (inb 0 (qt (gR r0 0))) (.br (inb 1 (qt (gR r0 0))) (let r1:TR:=(wy [(.s (cS (gR r0 0) 0 0)),(.s (cS (gR r0 0) 1 0))])
 .br (okR r1) (.br (inb 2 (qt (gR r0 0))) (let r2:TR:=(wd [(.s (gS r1 0)),(.s (cS (gR r0 0) 2 0))])
 .br (okR r2) (.leaf (0,[(.s (gS r2 0))])) .fail) .fail) .fail) .fail) .fail) .fail):=by kernel_rfl
theorem qmo(x0:List UInt8)(x1:List UInt8):qK [.s x0,.s x1]=(let r0:TR:=(zi [(.s x0),(.s x1)])
 .br (okR r0) (.br (inb 3 (qt (gR r0 0))) (.br (inb 2 (qt (gR r0 0))) (let r1:TR:=(wd [(.s (cS (gR r0 0) 3 0)),(.s (cS (gR r0 0) 2 0))])
 .br (okR r1) (.leaf (0,[(.s (gS r1 0))])) .fail) .fail) .fail) .fail):=by kernel_rfl
theorem qpz(x0:List UInt8)(x1:List UInt8)(x2:List UInt8)(x3:List UInt8):yh [.s x0,.s x1,.s x2,.s x3]=(let r0:TR:=(qK [(.s x0),(.s x2)])
 .br (okR r0) (let r1:TR:=(qK [(.s x1),(.s x3)])
 .br (okR r1) (let r2:TR:=(wL [(.s (gS r0 0)),(.s (gS r1 0))])
 .br (okR r2) (.leaf (0,[(.s (gS r2 0))])) .fail) .fail) .fail):=by kernel_rfl
theorem qmI(x0:List UInt8)(x1:List UInt8)(x2:List UInt8)(x3:List UInt8):jC [.s x0,.s x1,.s x2,.s x3]=(let r0:TR:=(zm [(.s x0),(.s x2)])
 .br (okR r0) (let r1:TR:=(zm [(.s x1),(.s x3)])
 .br (okR r1) (.leaf (0,[(.s (gS r0 0)),(.s (gS r1 0))])) .fail) .fail):=by kernel_rfl
theorem ql0(x0:List UInt8):jO [.s x0]=(let r0:TR:=(zm [(.s [48]),(.s x0)])
 .br (okR r0) (.leaf (0,[(.s (gS r0 0))])) .fail):=by kernel_rfl
theorem qrS(x0:List UInt8)(x1:List UInt8):q7N [.s x0,.s x1]=(let r0:TR:=(zi [(.s x0),(.s x1)])
 .br (okR r0) (.br (inb 0 (qt (gR r0 0))) (.br (inb 4 (qt (gR r0 0))) (let r1:TR:=(wd [(.s (cS (gR r0 0) 0 0)),(.s (cS (gR r0 0) 4 0))])
 .br (okR r1) (.leaf (0,[(.s (gS r1 0))])) .fail) .fail) .fail) .fail):=by kernel_rfl
theorem qiN(x0:List UInt8)(x1:List UInt8)(x2:List UInt8)(x3:List UInt8)(x4:List UInt8)(x5:List UInt8):q0n [.s x0,.s x1,.s x2,.s x3,.s x4,.s x5]=(let r0:TR:=(jC [(.s x3),(.s x4),(.s x0),(.s x1)])
 .br (okR r0) (let r1:TR:=(yh [(.s (gS r0 0)),(.s (gS r0 1)),(.s (gS r0 0)),(.s (gS r0 1))])
 .br (okR r1) (.br (seq (gS r1 0) [48]) (.leaf (0,[(.s []),(.s []),(.s []),(.s []),(.s []),(.b false)])) (let r2:TR:=(wL [(.s (gS r1 0)),(.s x2)])
 .br (okR r2) (let r3:TR:=(zm [(.s (gS r2 0)),(.s x5)])
 .br (okR r3) (let r4:TR:=(qK [(.s [50]),(.s (gS r1 0))])
 .br (okR r4) (let r5:TR:=(q7N [(.s (gS r3 0)),(.s (gS r4 0))])
 .br (okR r5) (let r6:TR:=(q7N [(.s x2),(.s (gS r1 0))])
 .br (okR r6) (let r7:TR:=(qK [(.s (gS r5 0)),(.s (gS r5 0))])
 .br (okR r7) (let r8:TR:=(zm [(.s (gS r6 0)),(.s (gS r7 0))])
 .br (okR r8) (let r9:TR:=(qK [(.s (gS r5 0)),(.s (gS r0 0))])
 .br (okR r9) (let r10:TR:=(wL [(.s x0),(.s (gS r9 0))])
 .br (okR r10) (let r11:TR:=(qK [(.s (gS r5 0)),(.s (gS r0 1))])
 .br (okR r11) (let r12:TR:=(wL [(.s x1),(.s (gS r11 0))])
 .br (okR r12) (let r13:TR:=(jO [(.s (gS r0 1))])
 .br (okR r13) (let r14:TR:=(zH [(.s (gS r8 0))])
 .br (okR r14) (.leaf (0,[(.s (gS r10 0)),(.s (gS r12 0)),(.s (gS r13 0)),(.s (gS r0 0)),(.s (gS r8 0)),(.b (ile 0 (gI r14 0)))])) .fail) .fail) .fail) .fail) .fail) .fail) .fail) .fail) .fail) .fail) .fail) .fail) .fail)) .fail) .fail):=by kernel_rfl
theorem qk5(x0:R)(x1:Int)(x2:Int)(x3:Int):yj [.r x0,.i x1,.i x2,.i x3]=(.br (ieq x1 x2) (.br (inb x1 (qt x0)) (.leaf (0,[(.s (cS x0 x1 0)),(.s (cS x0 x1 1)),(.s [48]),(.s [48]),(.s [48]),(.b (ieq x3 0))])) .fail) (.br (inb x1 (qt x0)) (.br (inb x2 (qt x0)) (let r0:TR:=(q0n [(.s (cS x0 x1 0)),(.s (cS x0 x1 1)),(.s (cS x0 x1 2)),(.s (cS x0 x2 0)),(.s (cS x0 x2 1)),(.s (cS x0 x2 2))])
 .br (okR r0) (.br (not (gB r0 5)) (.leaf (0,[(.s []),(.s []),(.s []),(.s []),(.s []),(.b false)])) (.br (not (beq (seq (gS r0 4) [48]) (ieq x3 0))) (.leaf (0,[(.s []),(.s []),(.s []),(.s []),(.s []),(.b false)])) (.br (ilt x3 0) (let r1:TR:=(jO [(.s (gS r0 2))])
 .br (okR r1) (let r2:TR:=(jO [(.s (gS r0 3))])
 .br (okR r2) (.leaf (0,[(.s (gS r0 0)),(.s (gS r0 1)),(.s (gS r1 0)),(.s (gS r2 0)),(.s (gS r0 4)),(.b true)])) .fail) .fail) (.leaf (0,[(.s (gS r0 0)),(.s (gS r0 1)),(.s (gS r0 2)),(.s (gS r0 3)),(.s (gS r0 4)),(.b true)]))))) .fail) .fail) .fail)):=by kernel_rfl
theorem qn7(x0:List UInt8)(x1:List UInt8):q0g [.s x0,.s x1]=(let r0:TR:=(zi [(.s x0),(.s x1)])
 .br (okR r0) (.br (inb 0 (qt (gR r0 0))) (.br (inb 1 (qt (gR r0 0))) (let r1:TR:=(jF [(.s (cS (gR r0 0) 0 0)),(.s (cS (gR r0 0) 1 0))])
 .br (okR r1) (.leaf (0,[(.i (gI r1 0))])) .fail) .fail) .fail) .fail):=by kernel_rfl
theorem qor(x0:List UInt8)(x1:List UInt8)(x2:List UInt8):q1g [.s x0,.s x1,.s x2]=(let r0:TR:=(zH [(.s x0)])
 .br (okR r0) (let r1:TR:=(zH [(.s x1)])
 .br (okR r1) (let r2:TR:=(zH [(.s x2)])
 .br (okR r2) (.br (ile 0 (uM .i64 (gI r0 0) (uM .i64 (gI r1 0) (gI r2 0)))) (.br (ieq (gI r0 0) 0) (.leaf (0,[(.i (uM .i64 (gI r1 0) (gI r2 0)))])) (.leaf (0,[(.i (gI r0 0))]))) (let r3:TR:=(qK [(.s x0),(.s x0)])
 .br (okR r3) (let r4:TR:=(qK [(.s x1),(.s x1)])
 .br (okR r4) (let r5:TR:=(qK [(.s (gS r4 0)),(.s x2)])
 .br (okR r5) (let r6:TR:=(q0g [(.s (gS r3 0)),(.s (gS r5 0))])
 .br (okR r6) (.leaf (0,[(.i (uM .i64 (gI r0 0) (gI r6 0)))])) .fail) .fail) .fail) .fail)) .fail) .fail) .fail):=by kernel_rfl
theorem qmm(x0:List UInt8)(x1:List UInt8)(x2:List UInt8)(x3:List UInt8)(x4:List UInt8)(x5:List UInt8)(x6:List UInt8)(x7:List UInt8):q29 [.s x0,.s x1,.s x2,.s x3,.s x4,.s x5,.s x6,.s x7]=(let r0:TR:=(jC [(.s x3),(.s x4),(.s x0),(.s x1)])
 .br (okR r0) (let r1:TR:=(yh [(.s (gS r0 0)),(.s (gS r0 1)),(.s (gS r0 0)),(.s (gS r0 1))])
 .br (okR r1) (let r2:TR:=(yh [(.s x5),(.s x6),(.s x5),(.s x6)])
 .br (okR r2) (let r3:TR:=(qK [(.s x7),(.s (gS r2 0))])
 .br (okR r3) (let r4:TR:=(wL [(.s (gS r1 0)),(.s (gS r3 0))])
 .br (okR r4) (let r5:TR:=(zm [(.s (gS r4 0)),(.s x2)])
 .br (okR r5) (let r6:TR:=(yh [(.s (gS r0 0)),(.s (gS r0 1)),(.s x5),(.s x6)])
 .br (okR r6) (let r7:TR:=(qK [(.s [50]),(.s (gS r6 0))])
 .br (okR r7) (let r8:TR:=(q1g [(.s (gS r5 0)),(.s (gS r7 0)),(.s x7)])
 .br (okR r8) (.leaf (0,[(.b (ile (gI r8 0) 0))])) .fail) .fail) .fail) .fail) .fail) .fail) .fail) .fail) .fail):=by kernel_rfl
theorem q5r(y0:R)(y1:Int)(y2:List UInt8)(y3:List UInt8)(y4:List UInt8)(y5:List UInt8)(y6:List UInt8):q0B [.r y0,.i y1,.s y2,.s y3,.s y4,.s y5,.s y6]=(.br (ilt y1 (qt y0)) (.br (inb y1 (qt y0)) (let r0:TR:=(q29 [(.s (cS y0 y1 0)),(.s (cS y0 y1 1)),(.s (cS y0 y1 2)),(.s y2),(.s y3),(.s y4),(.s y5),(.s y6)])
 .br (okR r0) (.br (not (gB r0 0)) (.leaf (2,[(.b false)])) (.leaf (0,[(.r y0),(.i (qh .i64 y1 1)),(.s y2),(.s y3),(.s y4),(.s y5),(.s y6)]))) .fail) .fail) (.leaf (1,[]))):=by kernel_rfl
theorem qla(x0:R)(x1:Int)(x2:Int)(x3:Int):wZ [.r x0,.i x1,.i x2,.i x3]=(let r0:TR:=(yj [(.r x0),(.i x1),(.i x2),(.i x3)])
 .br (okR r0) (.br (not (gB r0 5)) (.leaf (0,[(.b false)])) (let r1:TR:=(qg q0B [(.r x0),(.i 0),(.s (gS r0 0)),(.s (gS r0 1)),(.s (gS r0 2)),(.s (gS r0 3)),(.s (gS r0 4))])
 .br (okR r1) (.br (jIs r1 0) (.leaf (0,[(.b true)])) (.leaf (0,[(.b (gB r1 0))]))) .fail)) .fail):=by kernel_rfl
theorem qcB(y0:R)(y1:Int)(y2:Int)(y3:Int)(y4:Int):q1q [.r y0,.i y1,.i y2,.i y3,.i y4]=(.br (ilt y1 (qt y0)) (let r0:TR:=(wZ [(.r y0),(.i y1),(.i y1),(.i 0)])
 .br (okR r0) (.br (gB r0 0) (.leaf (2,[(.b true),(.i y1),(.i y1),(.i 0)])) (.leaf (0,[(.r y0),(.i (qh .i64 y1 1)),(.i y2),(.i y3),(.i y4)]))) .fail) (.leaf (1,[(.r y0),(.i y2),(.i y3),(.i y4)]))):=by kernel_rfl
theorem qaG(y0:R)(y1:Int)(y2:Int)(y3:Int)(y4:Int)(y5:Int)(y6:Int)(y7:Int)(y8:R):q0A [.r y0,.i y1,.i y2,.i y3,.i y4,.i y5,.i y6,.i y7,.r y8]=(.br (ilt y4 y3) (.br (inb y4 (qt y8)) (let r0:TR:=(wZ [(.r y0),(.i y1),(.i y2),(.i (cI y8 y4 0))])
 .br (okR r0) (.br (gB r0 0) (.leaf (2,[(.b true),(.i y1),(.i y2),(.i (cI y8 y4 0))])) (.leaf (0,[(.r y0),(.i y1),(.i y2),(.i y3),(.i (qh .i64 y4 1)),(.i y5),(.i y6),(.i y7),(.r y8)]))) .fail) .fail) (.leaf (1,[(.r y0),(.i y1),(.i y2),(.i y5),(.i y6),(.i y7)]))):=by kernel_rfl
theorem qbk(y0:R)(y1:Int)(y2:Int)(y3:Int)(y4:Int)(y5:Int):q0C [.r y0,.i y1,.i y2,.i y3,.i y4,.i y5]=(.br (ilt y2 (qt y0)) (let r0:TR:=(qg q0A [(.r y0),(.i y1),(.i y2),(.i (qt [[(.i 0)],[(.i 1)],[(.i (-1))]])),(.i 0),(.i y3),(.i y4),(.i y5),(.r [[(.i 0)],[(.i 1)],[(.i (-1))]])])
 .br (okR r0) (.br (jIs r0 0) (.leaf (0,[(.r (gR r0 0)),(.i (gI r0 1)),(.i (qh .i64 (gI r0 2) 1)),(.i (gI r0 3)),(.i (gI r0 4)),(.i (gI r0 5))])) (.leaf (2,[(.b (gB r0 0)),(.i (gI r0 1)),(.i (gI r0 2)),(.i (gI r0 3))]))) .fail) (.leaf (1,[(.r y0),(.i y1),(.i y3),(.i y4),(.i y5)]))):=by kernel_rfl
theorem qaC(y0:R)(y1:Int)(y2:Int)(y3:Int)(y4:Int):q0j [.r y0,.i y1,.i y2,.i y3,.i y4]=(.br (ilt y1 (qt y0)) (let r0:TR:=(qg q0C [(.r y0),(.i y1),(.i (qh .i64 y1 1)),(.i y2),(.i y3),(.i y4)])
 .br (okR r0) (.br (jIs r0 0) (.leaf (0,[(.r (gR r0 0)),(.i (qh .i64 (gI r0 1) 1)),(.i (gI r0 2)),(.i (gI r0 3)),(.i (gI r0 4))])) (.leaf (2,[(.b (gB r0 0)),(.i (gI r0 1)),(.i (gI r0 2)),(.i (gI r0 3))]))) .fail) (.leaf (1,[(.i y2),(.i y3),(.i y4)]))):=by kernel_rfl
theorem qmr(x0:R):vk [.r x0]=(let r0:TR:=(qg q1q [(.r x0),(.i 0),(.i 0),(.i 0),(.i 0)])
 .br (okR r0) (.br (jIs r0 0) (let r1:TR:=(qg q0j [(.r (gR r0 0)),(.i 0),(.i (gI r0 1)),(.i (gI r0 2)),(.i (gI r0 3))])
 .br (okR r1) (.br (jIs r1 0) (.leaf (0,[(.i 0),(.i 0),(.i 0),(.b false)])) (.leaf (0,[(.i (gI r1 1)),(.i (gI r1 2)),(.i (gI r1 3)),(.b (gB r1 0))]))) .fail) (.leaf (0,[(.i (gI r0 1)),(.i (gI r0 2)),(.i (gI r0 3)),(.b (gB r0 0))]))) .fail):=by kernel_rfl
theorem qcq(y0:R)(y1:Int)(y2:Int):q1f [.r y0,.i y1,.i y2]=(.br (ilt y2 (qt y0)) (.br (inb y1 (qt y0)) (.br (inb y2 (qt y0)) (let r0:TR:=(vk [(.r [[(.s (cS y0 y1 0)),(.s (cS y0 y1 1)),(.s (cS y0 y1 2))],[(.s (cS y0 y2 0)),(.s (cS y0 y2 1)),(.s (cS y0 y2 2))]])])
 .br (okR r0) (.br (not (gB r0 3)) (.leaf (2,[(.r [[(.i y1)],[(.i y2)]])])) (.leaf (0,[(.r y0),(.i y1),(.i (qh .i64 y2 1))]))) .fail) .fail) .fail) (.leaf (1,[(.r y0),(.i y1)]))):=by kernel_rfl
theorem qcN(y0:R)(y1:Int):q1y [.r y0,.i y1]=(.br (ilt y1 (qt y0)) (let r0:TR:=(qg q1f [(.r y0),(.i y1),(.i (qh .i64 y1 1))])
 .br (okR r0) (.br (jIs r0 0) (.leaf (0,[(.r (gR r0 0)),(.i (qh .i64 (gI r0 1) 1))])) (.leaf (2,[(.r (gR r0 0))]))) .fail) (.leaf (1,[(.r y0)]))):=by kernel_rfl
theorem qb7(y0:R)(y1:Int)(y2:Int)(y3:Int):q0k [.r y0,.i y1,.i y2,.i y3]=(.br (ilt y3 (qt y0)) (.br (inb y1 (qt y0)) (.br (inb y2 (qt y0)) (.br (inb y3 (qt y0)) (let r0:TR:=(vk [(.r [[(.s (cS y0 y1 0)),(.s (cS y0 y1 1)),(.s (cS y0 y1 2))],[(.s (cS y0 y2 0)),(.s (cS y0 y2 1)),(.s (cS y0 y2 2))],[(.s (cS y0 y3 0)),(.s (cS y0 y3 1)),(.s (cS y0 y3 2))]])])
 .br (okR r0) (.br (not (gB r0 3)) (.leaf (2,[(.r [[(.i y1)],[(.i y2)],[(.i y3)]])])) (.leaf (0,[(.r y0),(.i y1),(.i y2),(.i (qh .i64 y3 1))]))) .fail) .fail) .fail) .fail) (.leaf (1,[(.r y0),(.i y1),(.i y2)]))):=by kernel_rfl
theorem qb9(y0:R)(y1:Int)(y2:Int):q0z [.r y0,.i y1,.i y2]=(.br (ilt y2 (qt y0)) (let r0:TR:=(qg q0k [(.r y0),(.i y1),(.i y2),(.i (qh .i64 y2 1))])
 .br (okR r0) (.br (jIs r0 0) (.leaf (0,[(.r (gR r0 0)),(.i (gI r0 1)),(.i (qh .i64 (gI r0 2) 1))])) (.leaf (2,[(.r (gR r0 0))]))) .fail) (.leaf (1,[(.r y0),(.i y1)]))):=by kernel_rfl
theorem qaV(y0:R)(y1:Int):q0p [.r y0,.i y1]=(.br (ilt y1 (qt y0)) (let r0:TR:=(qg q0z [(.r y0),(.i y1),(.i (qh .i64 y1 1))])
 .br (okR r0) (.br (jIs r0 0) (.leaf (0,[(.r (gR r0 0)),(.i (qh .i64 (gI r0 1) 1))])) (.leaf (2,[(.r (gR r0 0))]))) .fail) (.leaf (1,[]))):=by kernel_rfl
theorem qn2(x0:R):q4z [.r x0]=(let r0:TR:=(qg q1y [(.r x0),(.i 0)])
 .br (okR r0) (.br (jIs r0 0) (let r1:TR:=(qg q0p [(.r (gR r0 0)),(.i 0)])
 .br (okR r1) (.br (jIs r1 0) (.leaf (0,[(.r [])])) (.leaf (0,[(.r (gR r1 0))]))) .fail) (.leaf (0,[(.r (gR r0 0))]))) .fail):=by kernel_rfl
theorem q4P(x0:R):wN [.r x0]=(let r0:TR:=(kV [(.r x0)])
 .br (okR r0) (.br (ine (gI r0 0) 0) (.leaf (0,[(.r []),(.i (gI r0 0))])) (let r1:TR:=(q4z [(.r x0)])
 .br (okR r1) (.leaf (0,[(.r (gR r1 0)),(.i 0)])) .fail)) .fail):=by kernel_rfl
theorem q1F(y0:R)(y1:Int)(y2:R)(y3:Int)(y4:Int)(y5:R)(y6:Int)(y7:Int)(y8:Int)(y9:R)(y10:List UInt8)(y11:List UInt8)(y12:List UInt8):vt [.r y0,.i y1,.r y2,.i y3,.i y4,.r y5,.i y6,.i y7,.i y8,.r y9,.s y10,.s y11,.s y12]=(.br (ilt y7 y6) (.br (inb y7 (qt y5)) (.br (ine y7 y1) (let r0:TR:=(qL [(.s (cS y5 y7 0)),(.s (cS y5 y7 1)),(.s (cS y5 y7 2)),(.s y10),(.s y11),(.s y12),(.i y8)])
 .br (okR r0) (.br (gB r0 0) (.br (ilt y7 y1) (.br (ile ((qt y9)+(qt [[(.i y1)]])) 17592186044416) (.leaf (1,[(.r y0),(.r y2),(.i y3),(.i y4),(.i (gI r0 1)),(.r (qaY y9 [[(.i y1)]]))])) .fail) (let r1:TR:=(qL [(.s y10),(.s y11),(.s y12),(.s (cS y5 y7 0)),(.s (cS y5 y7 1)),(.s (cS y5 y7 2)),(.i (gI r0 1))])
 .br (okR r1) (.br (not (gB r1 0)) (.br (ile ((qt y9)+(qt [[(.i y1)]])) 17592186044416) (.leaf (1,[(.r y0),(.r y2),(.i y3),(.i y4),(.i (gI r1 1)),(.r (qaY y9 [[(.i y1)]]))])) .fail) (.leaf (0,[(.r y0),(.i y1),(.r y2),(.i y3),(.i y4),(.r y5),(.i y6),(.i (qh .i64 y7 1)),(.i (gI r1 1)),(.r y9),(.s y10),(.s y11),(.s y12)]))) .fail)) (.leaf (0,[(.r y0),(.i y1),(.r y2),(.i y3),(.i y4),(.r y5),(.i y6),(.i (qh .i64 y7 1)),(.i (gI r0 1)),(.r y9),(.s y10),(.s y11),(.s y12)]))) .fail) (.leaf (0,[(.r y0),(.i y1),(.r y2),(.i y3),(.i y4),(.r y5),(.i y6),(.i (qh .i64 y7 1)),(.i y8),(.r y9),(.s y10),(.s y11),(.s y12)]))) .fail) (.leaf (1,[(.r y0),(.r y2),(.i y3),(.i y4),(.i y8),(.r y9)]))):=by kernel_rfl
theorem q6V(y0:R)(y1:R)(y2:Int)(y3:Int)(y4:Int)(y5:R):vN [.r y0,.r y1,.i y2,.i y3,.i y4,.r y5]=(.br (ilt y3 y2) (.br (inb y3 (qt y1)) (let r0:TR:=(qg vt [(.r y0),(.i y3),(.r y1),(.i y2),(.i y3),(.r y0),(.i (qt y0)),(.i 0),(.i y4),(.r y5),(.s (cS y1 y3 0)),(.s (cS y1 y3 1)),(.s (cS y1 y3 2))])
 .br (okR r0) (.leaf (0,[(.r (gR r0 0)),(.r (gR r0 1)),(.i (gI r0 2)),(.i (qh .i64 (gI r0 3) 1)),(.i (gI r0 4)),(.r (gR r0 5))])) .fail) .fail) (.leaf (1,[(.i y4),(.r y5)]))):=by kernel_rfl
theorem q9q(x0:R):jU [.r x0]=(let r0:TR:=(z7 [(.r x0)])
 .br (okR r0) (.br (ine (gI r0 0) 0) (.leaf (0,[(.r []),(.i (gI r0 0))])) (let r1:TR:=(qg vN [(.r x0),(.r x0),(.i (qt x0)),(.i 0),(.i 0),(.r [])])
 .br (okR r1) (.br (ine (gI r1 0) 0) (.leaf (0,[(.r []),(.i (gI r1 0))])) (.leaf (0,[(.r (gR r1 1)),(.i 0)]))) .fail)) .fail):=by kernel_rfl
theorem qpV(x0:List UInt8)(x1:List UInt8)(x2:List UInt8)(x3:List UInt8):q8C [.s x0,.s x1,.s x2,.s x3]=(let r0:TR:=(jC [(.s x0),(.s x1),(.s x2),(.s x3)])
 .br (okR r0) (.br (okR r0) (let r1:TR:=(yh [(.s (gS r0 0)),(.s (gS r0 1)),(.s (gS r0 0)),(.s (gS r0 1))])
 .br (okR r1) (.leaf (0,[(.s (gS r1 0))])) .fail) .fail) .fail):=by kernel_rfl
theorem qmC(x0:List UInt8)(x1:List UInt8)(x2:List UInt8)(x3:List UInt8)(x4:List UInt8)(x5:List UInt8):q41 [.s x0,.s x1,.s x2,.s x3,.s x4,.s x5]=(let r0:TR:=(q8C [(.s x0),(.s x1),(.s x3),(.s x4)])
 .br (okR r0) (let r1:TR:=(wL [(.s x2),(.s x5)])
 .br (okR r1) (let r2:TR:=(zm [(.s (gS r0 0)),(.s (gS r1 0))])
 .br (okR r2) (let r3:TR:=(qK [(.s x2),(.s x5)])
 .br (okR r3) (let r4:TR:=(q1g [(.s (gS r2 0)),(.s [50]),(.s (gS r3 0))])
 .br (okR r4) (.leaf (0,[(.i (gI r4 0))])) .fail) .fail) .fail) .fail) .fail):=by kernel_rfl
theorem qkH(x0:List UInt8)(x1:List UInt8)(x2:List UInt8)(x3:List UInt8)(x4:List UInt8)(x5:List UInt8):jL [.s x0,.s x1,.s x2,.s x3,.s x4,.s x5]=(let r0:TR:=(q41 [(.s x0),(.s x1),(.s x2),(.s x3),(.s x4),(.s x5)])
 .br (okR r0) (.br (ile (gI r0 0) 0) (let r1:TR:=(q0g [(.s x2),(.s x5)])
 .br (okR r1) (.leaf (0,[(.b (ile (gI r1 0) 0))])) .fail) (.leaf (0,[(.b false)]))) .fail):=by kernel_rfl
theorem qbd(y0:R)(y1:Int)(y2:Bool)(y3:Int)(y4:R):yP [.r y0,.i y1,.b y2,.i y3,.r y4]=(.br (ilt y3 (qt y0)) (.br y2 (.leaf (0,[(.r y0),(.i y1),(.b true),(.i (qh .i64 y3 1)),(.r y4)])) (.br (ine y3 y1) (.br (inb y3 (qt y0)) (.br (inb y1 (qt y0)) (let r0:TR:=(jL [(.s (cS y0 y3 0)),(.s (cS y0 y3 1)),(.s (cS y0 y3 2)),(.s (cS y0 y1 0)),(.s (cS y0 y1 1)),(.s (cS y0 y1 2))])
 .br (okR r0) (.br (gB r0 0) (.br (ilt y3 y1) (.leaf (0,[(.r y0),(.i y1),(.b true),(.i (qh .i64 y3 1)),(.r y4)])) (.br (inb y1 (qt y0)) (.br (inb y3 (qt y0)) (let r1:TR:=(jL [(.s (cS y0 y1 0)),(.s (cS y0 y1 1)),(.s (cS y0 y1 2)),(.s (cS y0 y3 0)),(.s (cS y0 y3 1)),(.s (cS y0 y3 2))])
 .br (okR r1) (.leaf (0,[(.r y0),(.i y1),(.b (not (gB r1 0))),(.i (qh .i64 y3 1)),(.r y4)])) .fail) .fail) .fail)) (.leaf (0,[(.r y0),(.i y1),(.b false),(.i (qh .i64 y3 1)),(.r y4)]))) .fail) .fail) .fail) (.leaf (0,[(.r y0),(.i y1),(.b false),(.i (qh .i64 y3 1)),(.r y4)])))) (.leaf (1,[(.r y0),(.i y1),(.b y2),(.r y4)]))):=by kernel_rfl
theorem qcP(y0:R)(y1:Int)(y2:R):kR [.r y0,.i y1,.r y2]=(.br (ilt y1 (qt y0)) (let r0:TR:=(qg yP [(.r y0),(.i y1),(.b false),(.i 0),(.r y2)])
 .br (okR r0) (.br (gB r0 2) (.br (ile ((qt (gR r0 3))+(qt [[(.i (gI r0 1))]])) 17592186044416) (.leaf (0,[(.r (gR r0 0)),(.i (qh .i64 (gI r0 1) 1)),(.r (qaY (gR r0 3) [[(.i (gI r0 1))]]))])) .fail) (.leaf (0,[(.r (gR r0 0)),(.i (qh .i64 (gI r0 1) 1)),(.r (gR r0 3))]))) .fail) (.leaf (1,[(.r y2)]))):=by kernel_rfl
theorem qmO(x0:R):q4i [.r x0]=(let r0:TR:=(qg kR [(.r x0),(.i 0),(.r [])])
 .br (okR r0) (.leaf (0,[(.r (gR r0 0))])) .fail):=by kernel_rfl
theorem q9D(x0:R):jW [.r x0]=(let r0:TR:=(kV [(.r x0)])
 .br (okR r0) (.br (ine (gI r0 0) 0) (.leaf (0,[(.r []),(.i (gI r0 0))])) (let r1:TR:=(q4i [(.r x0)])
 .br (okR r1) (.leaf (0,[(.r (gR r1 0)),(.i 0)])) .fail)) .fail):=by kernel_rfl
theorem q8W(y0:R)(y1:R)(y2:Int):yU [.r y0,.r y1,.i y2]=(.br (ilt y2 (qt y0)) (.br (inb y2 (qt y0)) (.br (inb y2 (qt y1)) (.br (ine (cI y0 y2 0) (cI y1 y2 0)) (.leaf (2,[(.b false)])) (.leaf (0,[(.r y0),(.r y1),(.i (qh .i64 y2 1))]))) .fail) .fail) (.leaf (1,[]))):=by kernel_rfl
theorem qiC(x0:R)(x1:R):yF [.r x0,.r x1]=(.br (ine (qt x0) (qt x1)) (.leaf (0,[(.b false)])) (let r0:TR:=(qg yU [(.r x0),(.r x1),(.i 0)])
 .br (okR r0) (.br (jIs r0 0) (.leaf (0,[(.b true)])) (.leaf (0,[(.b (gB r0 0))]))) .fail)):=by kernel_rfl
theorem qaW(x0:R):v8 [.r x0]=(let r0:TR:=(q8i [(.r x0)])
 .br (okR r0) (.br (not (gB r0 0)) (let r1:TR:=(q1K [])
 .br (okR r1) (.leaf (0,[(.b (gB r1 0))])) .fail) (let r1:TR:=(qZ [(.r x0)])
 .br (okR r1) (let r2:TR:=(wN [(.r x0)])
 .br (okR r2) (let r3:TR:=(jU [(.r x0)])
 .br (okR r3) (let r4:TR:=(jW [(.r x0)])
 .br (okR r4) (let r5:TR:=(q1K [])
 .br (okR r5) (.br (gB r5 0) (let r6:TR:=(yF [(.r (gR r1 0)),(.r (gR r2 0))])
 .br (okR r6) (.br (gB r6 0) (.br (ieq (gI r1 1) (gI r2 1)) (let r7:TR:=(yF [(.r (gR r3 0)),(.r (gR r4 0))])
 .br (okR r7) (.br (gB r7 0) (.leaf (0,[(.b (ieq (gI r3 1) (gI r4 1)))])) (.leaf (0,[(.b false)]))) .fail) (.leaf (0,[(.b false)]))) (.leaf (0,[(.b false)]))) .fail) (.leaf (0,[(.b false)]))) .fail) .fail) .fail) .fail) .fail)) .fail):=by kernel_rfl
end Go.Eng

namespace Go.Eng
mutual
def qiW{H:Type}:DataW H→List U
 | .lit (.bool b)=>[.b b]
 | .lit (.int _ n)=>[.i n]
 | .lit (.string s)=>[.s s]
 | .nil=>[.l []]
 | .slice es _=>[.l (qpw es)]
 | .agg ps=>qua ps
 | _=>[.i 0]
def qua{H:Type}:List (DataW H)→List U
 | []=>[]
 | d::l=>qiW d++qua l
def qpw{H:Type}:List (DataW H)→List (List U)
 | []=>[]
 | d::l=>qiW d::qpw l
end
theorem qec{H:Type}:∀l:List (DataW H),qpw l=l.map qiW
 | []=>rfl
 | d::l=>by simp[qpw,qec l]
inductive UFit:Sh→U→Prop
 | int (k:IntKind) (n:Int) (h0:k.min≤n) (h1:n≤k.max):UFit (.int k) (.i n)
 | bool (b:Bool):UFit .bool (.b b)
 | str (s:List UInt8) (h:s.length≤maxLen):UFit .str (.s s)
 | sl (row:List Sh) (l:R) (h:l.length≤maxLen) (hl:∀r,r∈l→r.length=row.length) (hf:∀(r:List U) (j:Nat) (s:Sh) (u:U),r∈l→row[j]?=some s→r[j]?=some u→UFit s u):UFit (.sl row) (.l l)
inductive CR (W:World) (M:Nat→Prop):List Sh→List U→List Value→Prop
 | nil:CR W M [] [] []
 | cons {s:Sh} {u:U} {v:Value} {sh:List Sh} {us:List U} {vs:List Value} (h:RepU W M s u v) (f:UFit s u) (t:CR W M sh us vs):CR W M (s::sh) (u::us) (v::vs)
theorem CR.append{W:World}{M:Nat→Prop}{a a':List Sh}{b b':List U}{c c':List Value}(h:CR W M a b c)(k:CR W M a' b' c'):CR W M (a++a') (b++b') (c++c'):=by
 induction h with
 | nil=>exact k
 | cons h f t ih=>exact .cons h f ih
theorem CR.len{W:World}{M:Nat→Prop}{a:List Sh}{b:List U}{c:List Value}(h:CR W M a b c):b.length=a.length∧c.length=a.length:=by
 induction h with
 | nil=>exact⟨rfl,rfl⟩
 | cons h f t ih=>simp[ih.1,ih.2]
theorem CR.get{W:World}{M:Nat→Prop}{a:List Sh}{b:List U}{c:List Value}(h:CR W M a b c):∀(j:Nat) (s:Sh),a[j]?=some s→∃u v,b[j]?=some u∧c[j]?=some v∧RepU W M s u v∧UFit s u:=by
 induction h with
 | nil=>intro j s hj;simp at hj
 | cons h f t ih=>
  intro j s hj
  cases j with
  | zero=>simp at hj;subst hj;exact⟨_,_,rfl,rfl,h,f⟩
  | succ j=>simpa using ih j s (by simpa using hj)
def qov:Nat→List (Nat×TypeId×Nat)→Bool
 | _,[]=>true
 | o,f::l=>Nat.beq f.1 o&&qov (o+f.2.2) l
def qtw:List (Nat×TypeId×Nat)→Nat
 | []=>0
 | f::l=>f.2.2+qtw l
def qrW(x:TI):Bool:=match x.d with
 | .struct fs=>qov 0 fs&&Nat.beq (qtw fs) x.size
 | .array n _ es=>Nat.beq (n*es) x.size
 | .slice _ es=>Nat.blt 0 es
 | _=>true
theorem qwo{E:Env}(h:E.tt.all (fun x=>qrW x.2)=true)(t:TypeId):qrW (E.ty t)=true:=by
 unfold Env.ty
 cases hf:E.tt.find? fun x=>x.1==t with
 | none=>rfl
 | some x=>exact List.all_eq_true.1 h x (List.mem_of_find?_eq_some hf)
section
variable {H:Type} {enc:TypeId×Value→H} {P:Program} {W:World} {base:Nat} {sp:Nat→Bool} {held:Bool} {E:Env}
theorem qnN{M:Nat→Prop}{fuel n:Nat}{cs:List Value}(ih:∀t cs d ps sh,E.shape n t=some sh→DataW.trod enc P W base sp held fuel t cs=some (d,ps)→CR W M sh (qiW d) cs) :
  ∀(fs:List (Nat×TypeId×Nat)) (o:Nat) (xs:List (DataW H×List MemPlace)) (shs:List (List Sh)),qov o fs=true→o+qtw fs=cs.length→fs.mapM (fun f=>E.shape n f.2.1)=some shs →
   xs.length=fs.length→(∀(i:Nat) (f:Nat×TypeId×Nat),fs[i]?=some f→DataW.trod enc P W base sp held fuel f.2.1 ((cs.drop f.1).take f.2.2)=xs[i]?) →
   CR W M shs.flatten (qua (xs.map (·.1))) (cs.drop o)
 | [],o,xs,shs,_,hs,hsh,hl,_=>by
  simp[qtw] at hs hsh hl
  subst hsh hl
  have:cs.drop o=[]:=List.drop_eq_nil_of_le (by omega)
  rw[this]
  exact .nil
 | f::fs,o,xs,shs,hlay,hs,hsh,hl,hx=>by
  simp only[qov,Bool.and_eq_true] at hlay
  obtain⟨h1,h2⟩:=hlay
  have ho:f.1=o:=Nat.eq_of_beq_eq_true h1
  simp only[qtw] at hs
  rw[List.mapM_cons] at hsh
  cases hsf:E.shape n f.2.1 with
  | none=>rw[hsf] at hsh;cases hsh
  | some shf=>
   cases hrest:fs.mapM (fun f=>E.shape n f.2.1) with
   | none=>rw[hsf,hrest] at hsh;cases hsh
   | some shr=>
    rw[hsf,hrest] at hsh
    cases hsh
    cases xs with
    | nil=>simp at hl
    | cons x xs=>
     have h0:=hx 0 f rfl
     simp only[List.getElem?_cons_zero] at h0
     have c1:=ih f.2.1 _ x.1 x.2 shf hsf h0
     rw[ho] at c1
     have c2:=qnN (cs:=cs) (M:=M) (fuel:=fuel) ih fs (o+f.2.2) xs shr h2 (by omega) hrest (by simpa using hl) fun i g hg=>by
      have:=hx (i+1) g (by simpa using hg)
      simpa using this
     have hsplit:cs.drop o=(cs.drop o).take f.2.2++cs.drop (o+f.2.2):=by
      rw[←List.drop_drop,List.take_append_drop]
     rw[hsplit]
     simp only[List.flatten_cons,List.map_cons,qua]
     exact c1.append c2
theorem qqq{M:Nat→Prop}{fuel n es:Nat}{e:TypeId}{cs:List Value}{she:List Sh}(he:E.shape n e=some she)
  (ih:∀t cs d ps sh,E.shape n t=some sh→DataW.trod enc P W base sp held fuel t cs=some (d,ps)→CR W M sh (qiW d) cs) :
  ∀(m o:Nat) (xs:List (DataW H×List MemPlace)),(o+m)*es=cs.length→xs.length=m→(∀i,i<m→DataW.trod enc P W base sp held fuel e ((cs.drop ((o+i)*es)).take es)=xs[i]?) →
   CR W M (List.replicate m she).flatten (qua (xs.map (·.1))) (cs.drop (o*es))
 | 0,o,xs,hs,hl,_=>by
  simp at hl hs;subst hl
  have:cs.drop (o*es)=[]:=List.drop_eq_nil_of_le (by omega)
  rw[this]
  exact .nil
 | m+1,o,xs,hs,hl,hx=>by
  cases xs with
  | nil=>simp at hl
  | cons x xs=>
   have h0:=hx 0 (by omega)
   simp only[List.getElem?_cons_zero,Nat.add_zero] at h0
   have c1:=ih e _ x.1 x.2 she he h0
   have c2:=qqq (cs:=cs) he ih m (o+1) xs (by rw[←hs];congr 1;omega) (by simpa using hl) fun i hi=>by
    have:=hx (i+1) (by omega)
    rw[show o+(i+1)=o+1+i by omega] at this
    simpa using this
   have hsplit:cs.drop (o*es)=(cs.drop (o*es)).take es++cs.drop ((o+1)*es):=by
    rw[Nat.add_mul,Nat.one_mul,←List.drop_drop,List.take_append_drop]
   rw[hsplit]
   simp only[List.replicate_succ,List.flatten_cons,List.map_cons,qua]
   exact c1.append c2
theorem qse(hE:E.tok P)(hlay:E.tt.all (fun x=>qrW x.2)=true):∀(fuel n:Nat) (t:TypeId) (cs:List Value) (d:DataW H) (ps:List MemPlace) (sh:List Sh),E.shape n t=some sh →
  DataW.trod enc P W base sp held fuel t cs=some (d,ps)→CR W (fun b=>b<W.heap.size) sh (qiW d) cs:=by
 intro fuel
 induction fuel with
 | zero=>intro n t cs d ps sh _ h;simp[DataW.trod] at h
 | succ fuel ih=>
  intro n t cs d ps sh hsh h
  cases n with
  | zero=>simp[Env.shape] at hsh
  | succ n=>
   simp only[Env.shape] at hsh
   have hl:=qwo hlay t
   unfold qrW at hl
   cases hd:(E.ty t).d<;>rw[hd] at hsh hl<;>simp only at hsh hl<;>try (cases hsh)
   ·
    unfold DataW.trod at h
    rw[ql1 hE hd] at h
    split at h<;>simp_all
    obtain⟨rfl,_⟩:=h
    exact .cons (.bool (.b _)) (.bool _) .nil
   ·
    rename_i k
    unfold DataW.trod at h
    rw[qlx hE hd] at h
    split at h<;>simp_all
    obtain⟨⟨rfl,hw⟩,rfl,_⟩:=h
    simp[Lit.wf] at hw
    exact .cons (.int _ (.i _)) (.int _ _ hw.1 hw.2) .nil
   ·
    unfold DataW.trod at h
    rw[qfs hE hd] at h
    split at h<;>simp_all
    rename_i s
    obtain⟨hm,rfl,_⟩:=h
    refine .cons ?_ (.str _ (by simpa using hm)) .nil
    have:=RepU.str (w:=W) (M:=fun b=>b<W.heap.size) (.s s.data.toList)
    simpa[U.toS] using this
   ·
    rename_i e es
    obtain⟨ht,rfl⟩:=q16 hE hd
    cases he:E.shape n e with
    | none=>rw[he] at hsh;cases hsh
    | some she=>
     rw[he] at hsh
     cases hsh
     have hpos:0<P.cellsOf e:=by simpa[Nat.blt_eq] using hl
     rcases DataW.trod_slice ht h with⟨rfl,hx⟩|⟨a,len,cap,elems,rest,k,hk,rfl,hx,hb,hlc,hcm,hlen,hel,_,_⟩
     ·cases hx
      exact .cons (.slnil _ _ rfl) (.sl _ _ (by simp[maxLen]) (fun r hr=>by cases hr) (fun r j s u hr=>by cases hr)) .nil
     ·cases hx
      cases hk
      have hrow:∀(i:Nat) (hi:i<len),∃cs',W.cells? base (a.add (i*P.cellsOf e)) (P.cellsOf e)=some cs'∧CR W (fun b=>b<W.heap.size) she (qiW (elems[i]'(by omega)).1) cs':=by
       intro i hi
       have h0:=hel i hi
       rw[List.getElem?_eq_getElem (by omega)] at h0
       obtain⟨cs',g1,g2⟩:=Option.bind_eq_some_iff.1 h0
       exact⟨cs',g1,ih n e cs' _ _ she he g2⟩
      have hget:∀(r:Nat) (hr:r<len),(((elems.map (·.1)).map qiW).getD r []:List U)=qiW (elems[r]'(by omega)).1:=by
       intro r hr
       simp[List.getD_eq_getElem?_getD,hlen,hr]
      have hcell:∀(r j:Nat) (s:Sh) (hr:r<len),she[j]?=some s→∃v,W.cell? ⟨a.block,a.off+r*she.length+j,none⟩=some v∧RepU W (fun b=>b<W.heap.size) s (wY (qpw (elems.map (·.1))) r j) v∧UFit s ((qiW (elems[r]'(by omega)).1).getD j (.i 0))∧a.spot=none∧a.block<W.heap.size:=by
       intro r j s hr hj
       obtain⟨cs',g1,g2⟩:=hrow r hr
       obtain⟨_,g4,g5⟩:=World.cells?_some g1
       obtain⟨q1,q2⟩:=g2.len
       obtain⟨u,v,e1,e2,e3,e4⟩:=g2.get j s hj
       have hlen:she.length=P.cellsOf e:=by rw[←q2,g4]
       have hjl:j<P.cellsOf e:=by rw[←hlen];exact qw hj
       have hc:=(g5 j hjl).trans e2
       have h00:=g5 0 hpos
       obtain⟨cs0,z1,z2⟩:=hrow 0 (by omega)
       obtain⟨_,z4,z5⟩:=World.cells?_some z1
       have hz:=z5 0 hpos
       obtain⟨v0,hv0⟩:∃v0,cs0[0]?=some v0:=⟨cs0[0],List.getElem?_eq_getElem (by omega)⟩
       rw[hv0] at hz
       simp only[Nat.zero_mul,Addr.add,if_true] at hz
       have hspot:=World.cell?_spot hz
       refine⟨v,?_,?_,?_,hspot,World.block_lt_of_cell? _ _ hz⟩
       ·rw[←hc,Addr.add_of hspot,Addr.add_lit,hlen]
       ·have:wY (qpw (elems.map (·.1))) r j=u:=by
         rw[qec]
         unfold wY
         rw[Int.toNat_natCast,hget r hr]
         simp[List.getD_eq_getElem?_getD,e1]
        rw[this];exact e3
       ·simp[List.getD_eq_getElem?_getD,e1];exact e4
      have hrl:(qpw (elems.map (·.1))).length=len:=by rw[qec];simp[hlen]
      have hsh0:0<len→0<she.length:=by
       intro hl0
       obtain⟨cs',g1,g2⟩:=hrow 0 hl0
       obtain⟨_,g4,_⟩:=World.cells?_some g1
       rw[←g2.len.2,g4];exact hpos
      refine .cons ?_ (.sl _ _ (by rw[hrl];omega) ?_ ?_) .nil
      ·have hR:=qbr (w:=W) (M:=fun b=>b<W.heap.size) (row:=she) (l:=qpw (elems.map (·.1))) (v:=.slice (some a) len cap) (.inr ⟨a,cap,by rw[hrl],fun h0=>by
        rw[hrl] at h0
        obtain⟨_,_,_,_,h4,_⟩:=hcell 0 0 she[0] h0 (List.getElem?_eq_getElem (hsh0 h0))
        exact h4,by rw[hrl];exact hlc,fun r j hj hr=>by
        rw[hrl] at hr
        obtain⟨v,h1,h2,_,_,h5⟩:=hcell r j she[j] hr (List.getElem?_eq_getElem hj)
        exact⟨h5,v,h1,h2⟩⟩)
       exact hR
      ·intro r hr
       rw[qec] at hr
       obtain⟨i,hi⟩:=List.getElem?_of_mem hr
       have hil:i<len:=by have:=qw hi;simpa[hlen] using this
       have:r=qiW (elems[i]'(by omega)).1:=by
        rw[←hget i hil,List.getD_eq_getElem?_getD,hi];rfl
       obtain⟨cs',g1,g2⟩:=hrow i hil
       rw[this];exact g2.len.1
      ·intro r j s u hr hs hu
       rw[qec] at hr
       obtain⟨i,hi⟩:=List.getElem?_of_mem hr
       have hil:i<len:=by have:=qw hi;simpa[hlen] using this
       have:r=qiW (elems[i]'(by omega)).1:=by
        rw[←hget i hil,List.getD_eq_getElem?_getD,hi];rfl
       subst this
       obtain⟨_,_,_,h3,_⟩:=hcell i j s hil hs
       simpa[List.getD_eq_getElem?_getD,hu] using h3
   ·
    rename_i m e es
    obtain⟨ht,rfl⟩:=q9I hE hd
    cases he:E.shape n e with
    | none=>rw[he] at hsh;cases hsh
    | some she=>
     rw[he] at hsh
     cases hsh
     obtain⟨xs,m0,hf,hx,hcl,hxl,hel⟩:=DataW.trod_array ht h
     cases hf
     cases hx
     have hsz:m*P.cellsOf e=cs.length:=by
      rw[hcl]
      have h1:=Nat.eq_of_beq_eq_true hl
      obtain⟨_,i,dd,h2,_,_,h4,_⟩:=q0f hE (t:=t) (by rw[hd];rfl)
      rw[h1,h4]
      unfold Program.cellsOf
      rw[h2];rfl
     have:=qqq (cs:=cs) he (fun t cs d ps sh h1 h2=>ih n t cs d ps sh h1 h2) m 0 xs (by simpa using hsz) hxl (fun i hi=>by simpa using hel i hi)
     simpa[qiW] using this
   ·
    rename_i fs
    obtain⟨fields,ht,rfl⟩:=q61 hE hd
    cases hm:(fields.toList.map fun f=>(f.offset,f.type,P.cellsOf f.type)).mapM fun f=>E.shape n f.2.1 with
    | none=>rw[hm] at hsh;cases hsh
    | some shs=>
     rw[hm] at hsh
     cases hsh
     obtain⟨xs,m0,hf,hx,hcl,hxl,hel⟩:=DataW.trod_struct ht h
     cases hf
     cases hx
     simp only[Bool.and_eq_true] at hl
     have hsz:qtw (fields.toList.map fun f=>(f.offset,f.type,P.cellsOf f.type))=cs.length:=by
      rw[hcl]
      have h1:=Nat.eq_of_beq_eq_true hl.2
      obtain⟨_,i,dd,h2,_,_,h4,_⟩:=q0f hE (t:=t) (by rw[hd];rfl)
      rw[h1,h4]
      unfold Program.cellsOf
      rw[h2];rfl
     have:=qnN (cs:=cs) (fun t cs d ps sh h1 h2=>ih n t cs d ps sh h1 h2) _ 0 xs shs hl.1 (by simpa using hsz) hm (by simpa using hxl) (fun i f hf=>by
      rw[List.getElem?_map] at hf
      cases hfi:fields.toList[i]? with
      | none=>rw[hfi] at hf;cases hf
      | some g=>
       rw[hfi] at hf
       cases hf
       exact hel i g (by simpa using hfi))
     simpa[qiW] using this
end
end Go.Eng

namespace Go.Eng
open Go.RowKit
inductive UFits:List Sh→List U→Prop
 | nil:UFits [] []
 | cons {s:Sh} {u:U} {sh:List Sh} {us:List U} (h:UFit s u) (t:UFits sh us):UFits (s::sh) (u::us)
theorem CR.fits{W:World}{M:Nat→Prop}{a:List Sh}{b:List U}{c:List Value}(h:CR W M a b c):UFits a b:=by
 induction h with
 | nil=>exact .nil
 | cons h f t ih=>exact .cons f ih
def q7b:List Sh→List U→List AV
 | .int k::sh,u::us=>.int k u.toI::q7b sh us
 | .bool::sh,u::us=>.bool u.toB::q7b sh us
 | .str::sh,u::us=>.str u.toS::q7b sh us
 | .sl row::sh,u::us=>.imm row u.toR::q7b sh us
 | _,_=>[]
theorem qtf{X:Ctx}{sh:List Sh}{us:List U}{vs:List Value}(h:CR X.w X.M sh us vs):RepL X (q7b sh us) vs:=by
 induction h with
 | nil=>exact .nil
 | cons h f t ih=>
  rename_i s u v sh us vs
  cases s with
  | int k=>cases h;exact .cons (.int _ _) ih
  | bool=>cases h;exact .cons (.bool _) ih
  | str=>cases h;exact .cons (.str _) ih
  | sl row=>exact .cons (.imm _ _ _ (qgA h)) ih
def qto(agg:Bool)(sh:List Sh)(us:List U):AV:=match agg with
 | true=>.agg (q7b sh us)
 | false=>(q7b sh us).headD .undef
section
variable {H:Type} {enc:TypeId×Value→H} {P:Program} {W:World} {base:Nat} {sp:Nat→Bool} {held:Bool} {E:Env}
theorem qy1(hE:E.tok P)(hlay:E.tt.all (fun x=>qrW x.2)=true){X:Ctx}(hw:X.w=W)(hM:X.M=fun b=>b<W.heap.size){r:Reach}{b0:Nat}{n:Nat}{t:TypeId}{v:Value}{d:DataW H}{ps:List MemPlace}{sh:List Sh}
  (hsh:E.shape n t=some sh) (hv:Value.okWide P W r b0 t v) (hd:DataW.Trod enc P W base sp held t v d ps):UFits sh (qiW d)∧Rep X (qto (E.ty t).d.isAgg sh (qiW d)) v:=by
 obtain⟨fuel,hf⟩:=hd
 have hc:=qse hE hlay fuel n t _ d ps sh hsh hf
 refine⟨hc.fits,?_⟩
 have hr:RepL X (q7b sh (qiW d)) v.cells.toList:=qtf (by rw[hw,hM];exact hc)
 have hone:∀(_:(E.ty t).d.isAgg=false),v.cells=#[v]→Rep X (qto (E.ty t).d.isAgg sh (qiW d)) v:=by
  intro ha hcell
  rw[ha]
  rw[hcell] at hr
  simp only[qto]
  generalize q7b sh (qiW d)=l at hr
  cases hr with
  | cons h1 h2=>simpa using h1
 unfold Value.okWide at hv
 cases n with
 | zero=>simp[Env.shape] at hsh
 | succ n=>
  simp only[Env.shape] at hsh
  cases hd:(E.ty t).d<;>rw[hd] at hsh hone<;>simp only at hsh<;>try (cases hsh)
  ·rw[ql1 hE hd] at hv
   refine hone rfl ?_
   cases v<;>simp[Cell.okWide,ql1 hE hd,Cell.ok] at hv<;>rfl
  ·rw[qlx hE hd] at hv
   refine hone rfl ?_
   cases v<;>simp[Cell.okWide,qlx hE hd,Cell.ok] at hv<;>rfl
  ·rw[qfs hE hd] at hv
   refine hone rfl ?_
   cases v<;>simp[Cell.okWide,qfs hE hd,Cell.ok] at hv<;>rfl
  ·rw[(q16 hE hd).1] at hv
   refine hone rfl ?_
   cases v<;>simp[Cell.okWide,(q16 hE hd).1,Cell.ok] at hv<;>rfl
  ·rw[(q9I hE hd).1] at hv
   obtain⟨cs,rfl,_,_⟩:=hv
   simp only[TD.isAgg,qto]
   exact .agg _ _ (by simpa[Value.cells] using hr)
  ·obtain⟨fields,ht,_⟩:=q61 hE hd
   rw[ht] at hv
   obtain⟨cs,rfl,_,_⟩:=hv
   simp only[TD.isAgg,qto]
   exact .agg _ _ (by simpa[Value.cells] using hr)
end
theorem qtO{H:Type}{enc:TypeId×Value→H}{P:Program}{W:World}{base:Nat}{sp:Nat→Bool}{held:Bool}{ts:List TypeId}{ds:List (DataW H)}(h:(DataW.weightsEach P ts ds).all (·≤reachBytes)=true)
  (j:Nat) {t e:TypeId} {v:Value} {d:DataW H} {ps:List MemPlace} {x:R} {b:Nat} (ht:ts[j]?=some t) (hd:ds[j]?=some d) (hu:P.underlying t=some (.slice e)) (hb:P.bytesOf e=b)
  (htr:DataW.Trod enc P W base sp held t v d ps) (hx:[.l x]=qiW d):x.length*b≤140737488351232:=by
 have he:x.length=0∨∃es spr,d=.slice es spr∧x.length=es.length:=by
  obtain⟨fuel,hf⟩:=htr
  rcases DataW.trod_slice hu hf with⟨_,hx'⟩|⟨_,_,_,elems,rest,_,_,_,hx',_⟩
  ·cases hx'
   simp only[qiW,List.cons.injEq,U.l.injEq,and_true] at hx
   rw[hx];exact .inl rfl
  ·cases hx'
   simp only[qiW,List.cons.injEq,U.l.injEq,and_true] at hx
   exact .inr ⟨_,_,rfl,by rw[hx,qec];simp⟩
 rcases he with he|⟨es,spr,rfl,he⟩
 ·rw[he];omega
 ·have:=List.all_eq_true.1 h _ (DataW.weights_mem_each ht hd ((es.length+spr.length)*P.bytesOf e) (by simp[DataW.weights,hu]))
  have h2:(es.length+spr.length)*P.bytesOf e≤reachBytes:=by simpa using this
  rw[hb] at h2
  rw[he]
  have h3:es.length*b≤(es.length+spr.length)*b:=Nat.mul_le_mul_right _ (by omega)
  have h4:reachBytes=140737488351232:=rfl
  omega
def qub(W:World):Ctx:={ σ:=fun _=>none,h:=[],w:=W,M:=fun b=>b<W.heap.size }
def qtY(W:World):Base:={ w0:=W,imps:=[],M0:=fun b=>b<W.heap.size,fs:=[] }
theorem qzY(W:World):HSim (qtY W) (qub W):=by
 have hno:∀b n,¬(qub W).own b n:=by
  intro b n ⟨h,_⟩;cases h
 refine⟨fun b k h=>?_,fun b b' n h=>absurd h (hno b n),fun b n h=>absurd h (hno b n),fun n h=>h,fun n h=>h,fun n h=>.inl h,rfl,rfl,rfl,Nat.le_refl _,fun _ _ _=>rfl,fun b h=>?_,fun b h=>?_,fun b n h=>absurd h (hno b n),fun p hp=>by cases hp⟩
 ·have:([]:List Blk)[b]?=some k:=h
  simp at this
 ·exact absurd h (by simp[qtY])
 ·exact absurd h (by simp[qtY])
theorem qzy(W:World):Entry (qtY W) (qub W):=⟨rfl,rfl,fun _ h=>h⟩
theorem qvE{P:Program}{gl:List (Nat×AV)}{f:FuncId}{G:q0c}(hG:zh P gl f G){W:World}(hgl:qaA gl (qub W)){args:List AV}{vargs:List Value}(ha:RepL (qub W) args vargs)
  (h:(G args []).run=some (.bool true,[])):Calls P f vargs.toArray W fun e W'=>e=.returned (.bool true)∧Below W.heap.size W W':=by
 refine(hG.2 (qtY W) (qub W) args vargs _ (qzY W) (qzy W) hgl ha h).mono fun e W' ⟨v,X',e1,e2,e3,e4,e5,_⟩=>?_
 subst e2
 refine⟨?_,e5.os,e5.tape,e5.output,e5.size,fun k hk=>e5.frame k hk (by simp[qtY])⟩
 rw[e1]
 cases e3;rfl
theorem qtQ{i:FIn}{outs:List FOut}{T:List PV→TR}{args:List AV}{ps:List PV}(ho:outs=[{ res:=.bool,h:=[] }])(hi:i.take args []=some ps)(hT:(T ps).run=some (0,[.b true])) :
  (q9 i outs T args []).run=some (.bool true,[]):=by
 subst ho
 unfold q9
 rw[hi]
 simp only[Tree.run,okR,hT,Option.isSome_some]
 simp only[qyL,FOut.kinds,AP.kinds,BP.kindsL,List.append_nil,qjP,gB,pR,hT,List.getD_cons_zero,PV.toB,FOut.make,AP.make,BP.makeL,Tree.run]
theorem qyu{P:Program}{W:World}{E:Env}(hE:E.tok P)(hlay:E.tt.all (fun x=>qrW x.2)=true){name:String}{g n:Nat}{t:TypeId}{d:DataW Unit}{sh:List Sh}
  (hg:P.globalNamed name=some g) (hty:(P.globals[g]?).map (·.type)=some t) (hsh:E.shape n t=some sh) {ds:List (String×DataW Unit)} (h:laidMet P ds W) (hm:(name,d)∈ds) :
  qwS (qub W) (g,.eptr sh [qiW d] 0 0):=by
 obtain⟨ps,hl,_⟩:=h
 have key:∀(ds:List (String×DataW Unit)) (ps:List MemPlace),DataW.LaidVars P W ds ps→(name,d)∈ds→∃cs fuel p,W.var? P name=some cs∧DataW.trod (fun _=>()) P W 0 (fun _=>true) false fuel t cs.toList=some (d,p):=by
  intro ds
  induction ds with
  | nil=>intro ps _ h;cases h
  | cons x ds ih=>
   intro ps hl hm
   obtain⟨nm,dd⟩:=x
   obtain⟨g',t',cs,fuel,p,q,h1,h2,h3,h4,h5,_⟩:=hl
   rcases List.mem_cons.1 hm with he|hm
   ·cases he
    obtain rfl:=Option.some.inj (hg.symm.trans h1)
    obtain rfl:=Option.some.inj (hty.symm.trans h2)
    exact⟨cs,fuel,p,h3,h4⟩
   ·exact ih q h5 hm
 obtain⟨cs,fuel,p,h3,h4⟩:=key ds ps hl hm
 have hc:=qse hE hlay fuel n t _ d p sh hsh h4
 have hheap:∃T fr,W.heap[g]?=some (.cells cs T fr):=by
  unfold World.var? at h3
  rw[hg] at h3
  simp only[Option.bind_some] at h3
  split at h3
  ·rename_i cs' T fr he
   cases h3
   exact⟨T,fr,he⟩
  ·cases h3
 suffices hs:Rows (qub W).w (qub W).M sh [qiW d] ⟨g,0,none⟩ by
  refine⟨?_,?_,?_⟩
  ·have:=Rep.eptr (X:=qub W) sh [qiW d] 0 0 ⟨g,0,none⟩ rfl (Int.le_refl _) (by simp) hs
   simpa using this
  ·obtain⟨T,fr,he⟩:=hheap
   exact(Array.getElem?_eq_some_iff.1 he).1
  ·have:=World.var?_cell hg h3 sh.length
   show W.cell? ⟨g,sh.length*1,none⟩=none
   rw[Nat.mul_one,this,Array.getElem?_eq_none]
   rw[←Array.length_toList,hc.len.2]
   exact Nat.le_refl _
 intro r j hj hr
 have hr0:r=0:=by simpa using hr
 subst hr0
 obtain⟨u,v,e1,e2,e3,_⟩:=hc.get j sh[j] (List.getElem?_eq_getElem hj)
 have hcell:W.cell? ⟨g,j,none⟩=some v:=by
  have:=World.var?_cell hg h3 j
  rw[this];simpa using e2
 refine⟨World.block_lt_of_cell? W ⟨g,j,none⟩ hcell,v,?_,?_⟩
 ·rw[Nat.zero_mul,Nat.add_zero,Nat.zero_add];exact hcell
 have:wY [qiW d] (0:Nat) j=u:=by simp[wY,List.getD_eq_getElem?_getD,e1]
 rw[this];exact e3
theorem UFits.int{k:IntKind}{sh:List Sh}{us:List U}(h:UFits (.int k::sh) us):∃n us',us=.i n::us'∧k.min≤n∧n≤k.max∧UFits sh us':=by
 cases h with
 | cons h t=>cases h with
  | int k n h0 h1=>exact⟨n,_,rfl,h0,h1,t⟩
theorem UFits.bool{sh:List Sh}{us:List U}(h:UFits (.bool::sh) us):∃b us',us=.b b::us'∧UFits sh us':=by
 cases h with
 | cons h t=>cases h with
  | bool b=>exact⟨b,_,rfl,t⟩
theorem UFits.str{sh:List Sh}{us:List U}(h:UFits (.str::sh) us):∃s us',us=.s s::us'∧s.length≤maxLen∧UFits sh us':=by
 cases h with
 | cons h t=>cases h with
  | str s h0=>exact⟨s,_,rfl,h0,t⟩
theorem UFits.sl{row sh:List Sh}{us:List U}(h:UFits (.sl row::sh) us):∃l us',us=.l l::us'∧UFit (.sl row) (.l l)∧UFits sh us':=by
 cases h with
 | cons h t=>
  rename_i u us
  cases u with
  | l x=>exact⟨x,_,rfl,h,t⟩
  | _=>cases h
theorem UFits.none{us:List U}(h:UFits [] us):us=[]:=by cases h;rfl
end Go.Eng

namespace Go.Eng
theorem qzB{α:Type}(b:Bool)(t e:Tree α):(Tree.br b t e).run=if b=true then t.run else e.run:=by cases b<;>rfl
theorem qx0{α:Type}(a:α):(Tree.leaf a).run=some a:=rfl
theorem qwY{α:Type}:(Tree.fail:Tree α).run=none:=rfl
theorem zc{x y:Int}(h:-9223372036854775808≤x+y∧x+y≤9223372036854775807):qh .i64 x y=x+y:=by
 unfold qh IntKind.wrap
 simp[IntKind.signed,IntKind.bits];omega
theorem yn{x y:Int}(h:-9223372036854775808≤x-y∧x-y≤9223372036854775807):qA .i64 x y=x-y:=by
 unfold qA IntKind.wrap
 simp[IntKind.signed,IntKind.bits];omega
theorem q7T{x y:Int}(h:-9223372036854775808≤x*y∧x*y≤9223372036854775807):uM .i64 x y=x*y:=by
 unfold uM IntKind.wrap
 simp[IntKind.signed,IntKind.bits];omega
theorem qvb(x y:Int):(ieq x y=true)=(x=y):=by simp[ieq]
theorem qyr(x y:Int):(ine x y=true)=(x≠y):=by simp[ine]
theorem qyh(x y:Int):(ilt x y=true)=(x<y):=by simp[ilt]
theorem qyg(x y:Int):(ile x y=true)=(x≤y):=by simp[ile]
theorem qyA(x y:Bool):(Go.Eng.beq x y=true)=(x=y):=by simp[Go.Eng.beq]
theorem qzN{a b A B:Int}(h1:-A≤a)(h2:a≤A)(h3:-B≤b)(h4:b≤B):-(A*B)≤a*b∧a*b≤A*B:=by
 have e1:=Int.mul_nonneg (show 0≤A-a by omega) (show 0≤B-b by omega)
 have e2:=Int.mul_nonneg (show 0≤A+a by omega) (show 0≤B+b by omega)
 have e3:=Int.mul_nonneg (show 0≤A-a by omega) (show 0≤B+b by omega)
 have e4:=Int.mul_nonneg (show 0≤A+a by omega) (show 0≤B-b by omega)
 simp only[Int.sub_mul,Int.mul_sub,Int.add_mul,Int.mul_add] at e1 e2 e3 e4
 omega
theorem qo4{x:Int}(h:-9223372036854775807≤x∧x≤9223372036854775807):qA .i64 0 x=-x:=by
 rw[yn (by omega)];omega
theorem qpe{x:Int}(h:-9223372036854775808≤x∧x≤9223372036854775807):vu .i64 x=x:=by
 unfold vu IntKind.wrap
 simp[IntKind.signed,IntKind.bits];omega
theorem qwx(b:Bool):((!b)=true)=¬(b=true):=by cases b<;>simp
theorem qwL(x y:Bool):(quc x y=true)=(x=true∧y=true):=by simp[quc]
theorem qz7(i n:Int):(inb i n=true)=(0≤i∧i<n):=by simp[inb]
theorem qyc(i n:Int):(q5v i n=true)=(0≤i∧i≤n):=by simp[q5v]
theorem STD:(∀(α:Type) (b:Bool) (t e:Tree α),(Tree.br b t e).run=if b=true then t.run else e.run)∧(∀(α:Type) (a:α),(Tree.leaf a).run=some a)∧(∀(α:Type),(Tree.fail:Tree α).run=none) ∧
  (∀R:TR,okR R=R.run.isSome)∧(∀(α:Type) (a:α),(some a).isSome=true)∧(∀(R:TR) (i:Nat),gI R i=(pR R i).toI)∧(∀(R:TR) (i:Nat),gB R i=(pR R i).toB)∧(∀(R:TR) (i:Nat),gS R i=(pR R i).toS)∧(∀(R:TR) (i:Nat),gR R i=(pR R i).toR) ∧
  (∀(R:TR) (i:Nat),pR R i=R.run.elim (.i 0) fun r=>r.2.getD i (.i 0))∧(∀(α β:Type) (b:β) (f:α→β) (a:α),(some a).elim b f=f a) ∧
  (∀(a:PV) (l:List PV) (d:PV),(a::l).getD 0 d=a)∧(∀(a:PV) (l:List PV) (d:PV) (n:Nat),(a::l).getD (n+1) d=l.getD n d) ∧
  (∀n,(PV.i n).toI=n)∧(∀b,(PV.b b).toB=b)∧(∀s,(PV.s s).toS=s)∧(∀l,(PV.r l).toR=l) ∧
  (∀(α:Type) (h:Decidable True) (a b:α),@ite α True h a b=a)∧(∀(α:Type) (h:Decidable False) (a b:α),@ite α False h a b=b)∧((false=true)=False)∧((true=false)=False)∧((true=true)=True) ∧
  (∀x y,(ieq x y=true)=(x=y))∧(∀x y,(ine x y=true)=(x≠y))∧(∀x y,(ilt x y=true)=(x<y))∧(∀x y,(ile x y=true)=(x≤y))∧(∀x y,(Go.Eng.beq x y=true)=(x=y)) ∧
  (∀x y,(quc x y=true)=(x=true∧y=true))∧(∀b:Bool,((!b)=true)=¬(b=true))∧(∀i n,(inb i n=true)=(0≤i∧i<n))∧(∀i n,(q5v i n=true)=(0≤i∧i≤n)) ∧
  (∀(p:Prop) (_:Decidable p),(decide p=true)=p)∧(∀(α:Type) (a b:α),(a≠b)=¬(a=b))∧(¬True)=False∧(¬False)=True:=
 ⟨fun _=>qzB,fun _=>qx0,fun _=>qwY,fun _=>rfl,fun _ _=>rfl,fun _ _=>rfl,fun _ _=>rfl,fun _ _=>rfl,fun _ _=>rfl,fun R i=>by unfold pR;cases R.run<;>rfl,fun _ _ _ _ _=>rfl,
  fun _ _ _=>rfl,fun _ _ _ _=>rfl,fun _=>rfl,fun _=>rfl,fun _=>rfl,fun _=>rfl,fun _ _ _ _=>by simp,fun _ _ _ _=>by simp,by simp,by simp,by simp,qvb,qyr,qyh,qyg,qyA,
  qwL,qwx,qz7,qyc,fun _ _=>by simp,fun _ _ _=>rfl,by simp,by simp⟩
theorem qv{R:TR}{j:Nat}{ps:List PV}(h:R.run=some (j,ps))(i:Nat):(jIs R i=true)=(j=i):=by simp[jIs,jR,h]
theorem run_bind{α β:Type}(t:Tree α)(f:α→Tree β):(t.bind f).run=t.run.bind fun a=>(f a).run:=by
 induction t with
 | leaf a=>rfl
 | br b t e iht ihe=>cases b<;>simp[Tree.bind,Tree.run,iht,ihe]
 | fail=>rfl
theorem qex{S:List PV→TR}{n:Nat}{ps qs:List PV}(h:(S ps).run=some (0,qs)):(qhY S (n+1) ps).run=(qhY S n qs).run:=by
 simp[qhY,run_bind,h]
theorem q5W{S:List PV→TR}{n j:Nat}{ps qs:List PV}(h:(S ps).run=some (j+1,qs)):(qhY S (n+1) ps).run=some (j,qs):=by
 simp[qhY,run_bind,h,Tree.run]
def yx{α:Type}(f:Nat→Option α):Nat→Nat→Option α
 | _,0=>none
 | i,k+1=>match f i with
  | some a=>some a
  | none=>yx f (i+1) k
theorem qnI{S:List PV→TR}(st:Nat→List PV)(f:Nat→Option (Nat×List PV))(fin:Nat×List PV)(n:Nat)
  (h1:∀i,i<n→f i=none→(S (st i)).run=some (0,st (i+1))) (h2:∀i r,i<n→f i=some r→(S (st i)).run=some (r.1+1,r.2))
  (h3:(S (st n)).run=some (fin.1+1,fin.2)):∀(k i m:Nat),i+k=n→k<m→(qhY S m (st i)).run=some ((yx f i k).getD fin)
 | 0,i,m,hi,hm=>by
  obtain⟨m,rfl⟩:∃m',m=m'+1:=⟨m-1,by omega⟩
  have:i=n:=by omega
  subst this
  rw[q5W h3];rfl
 | k+1,i,m,hi,hm=>by
  obtain⟨m,rfl⟩:∃m',m=m'+1:=⟨m-1,by omega⟩
  cases hf:f i with
  | none=>
   rw[qex (h1 i (by omega) hf),qnI st f fin n h1 h2 h3 k (i+1) m (by omega) (by omega)]
   simp[yx,hf]
  | some r=>
   rw[q5W (h2 i r (by omega) hf)]
   simp[yx,hf]
theorem qaM{S:List PV→TR}(st:Nat→List PV)(f:Nat→Option (Nat×List PV))(fin:Nat×List PV)(n:Nat)(hn:n<9223372036854775808)
  (h1:∀i,i<n→f i=none→(S (st i)).run=some (0,st (i+1))) (h2:∀i r,i<n→f i=some r→(S (st i)).run=some (r.1+1,r.2))
  (h3:(S (st n)).run=some (fin.1+1,fin.2)):(qg S (st 0)).run=some ((yx f 0 n).getD fin):=
 qnI st f fin n h1 h2 h3 n 0 qdk (by omega) (Nat.lt_trans hn (by unfold qdk;decide))
theorem yK{S:List PV→TR}(st:Nat→List PV)(fin:Nat×List PV)(n:Nat)(hn:n<9223372036854775808)
  (h1:∀i,i<n→(S (st i)).run=some (0,st (i+1))) (h3:(S (st n)).run=some (fin.1+1,fin.2)):(qg S (st 0)).run=some fin:=by
 have h:=qaM st (fun _=>none) fin n hn (fun i hi _=>h1 i hi) (fun i r _ h=>by cases h) h3
 have e:∀k i,yx (fun _=>(none:Option (Nat×List PV))) i k=none:=by
  intro k;induction k with
  | zero=>intro i;rfl
  | succ k ih=>intro i;simp[yx,ih]
 rw[e] at h;exact h
theorem qkY{α:Type}{f:Nat→Option α}:∀{k i:Nat},yx f i k=none→∀j,i≤j→j<i+k→f j=none
 | 0,i,_,j,h1,h2=>by omega
 | k+1,i,h,j,h1,h2=>by
  simp only[yx] at h
  cases hf:f i with
  | some a=>rw[hf] at h;cases h
  | none=>
   rw[hf] at h
   rcases Nat.eq_or_lt_of_le h1 with rfl|h1
   ·exact hf
   ·exact qkY h j h1 (by omega)
theorem qng{α:Type}{f g:Nat→Option α}:∀{k i:Nat},(∀j,i≤j→j<i+k→f j=g j)→yx f i k=yx g i k
 | 0,i,_=>rfl
 | k+1,i,h=>by
  simp only[yx]
  rw[h i (by omega) (by omega),qng (fun j h1 h2=>h j (by omega) (by omega))]
theorem qot{α β:Type}(g:α→β){f:Nat→Option α}:∀{k i:Nat},yx (fun j=>(f j).map g) i k=(yx f i k).map g
 | 0,i=>rfl
 | k+1,i=>by
  simp only[yx]
  cases f i with
  | some a=>rfl
  | none=>exact qot g
theorem kZ{i n:Nat}(h:i<n)(hn:n<9223372036854775808):qh .i64 (i:Int) 1=((i+1:Nat):Int):=by
 rw[zc (by omega)];omega
theorem quD{α:Type}(n:Nat):∀i,yx (fun _=>(none:Option α)) i n=none:=by
 induction n with
 | zero=>intro i;rfl
 | succ n ih=>intro i;simp[yx,ih]
def pick(p:Nat→Bool):Nat→R
 | 0=>[]
 | n+1=>if p n then qaY (pick p n) [[.i (n:Int)]] else pick p n
theorem qkb(p:Nat→Bool):∀n,(pick p n).length≤n
 | 0=>Nat.le_refl _
 | n+1=>by
  have:=qkb p n
  unfold pick;split
  ·simp[qaY];omega
  ·omega
def ql5(f:Nat→Int)(i:Nat):Option Int:=if f i=0 then none else some (f i)
theorem qum{f:Nat→Int}{n:Nat}(h:yx (ql5 f) 0 n=none)(i:Nat)(hi:i<n):f i=0:=by
 have:=qkY h i (by omega) (by omega)
 unfold ql5 at this;split at this
 ·assumption
 ·cases this
theorem qoF{f:Nat→Int}:∀{k i:Nat} {e:Int},yx (ql5 f) i k=some e→e≠0
 | 0,i,e,h=>by cases h
 | k+1,i,e,h=>by
  simp only[yx] at h
  unfold ql5 at h
  by_cases h0:f i=0
  ·rw[if_pos h0] at h;exact qoF h
  ·rw[if_neg h0] at h;simp at h;omega
def qdG(e:Nat→Int)(n:Nat):Int:=(yx (ql5 e) 0 n).getD 0
theorem qrQ{e:Nat→Int}{n:Nat}(h:qdG e n=0)(i:Nat)(hi:i<n):e i=0:=by
 unfold qdG at h
 cases hs:yx (ql5 e) 0 n with
 | none=>exact qum hs i hi
 | some x=>rw[hs] at h;exact absurd h (qoF hs)
theorem qwl{e:Nat→Int}{n:Nat}(h:∀i,i<n→e i=0):qdG e n=0:=by
 unfold qdG
 rw[qng (g:=fun _=>none) (fun j _ hj=>by unfold ql5;rw[if_pos (h j (by omega))]),quD];rfl
theorem qsu{S:List PV→TR}(st:Nat→List PV)(e:Nat→Int)(caps fin:List PV)(n:Nat)(hn:n<9223372036854775808)
  (h:∀i,i<n→(S (st i)).run=if e i=0 then some (0,st (i+1)) else some (2,.i (e i)::caps)) (h3:(S (st n)).run=some (1,fin)) :
  (qg S (st 0)).run=some (if qdG e n=0 then (0,fin) else (1,.i (qdG e n)::caps)):=by
 have key:=qaM st (fun i=>(ql5 e i).map fun x=>(1,PV.i x::caps)) (0,fin) n hn (fun i hi hf=>by
  rw[h i hi];unfold ql5 at hf;split at hf
  ·rename_i h0;rw[if_pos h0]
  ·simp at hf) (fun i r hi hf=>by
  rw[h i hi];unfold ql5 at hf;split at hf
  ·simp at hf
  ·rename_i h0;simp at hf;rw[if_neg h0,←hf]) h3
 rw[key,qot]
 unfold qdG
 cases hs:yx (ql5 e) 0 n with
 | none=>simp
 | some x=>simp[qoF hs]
theorem qvf{p:Nat→Bool}{i n:Nat}{K:Int}(hi:i<n)(hn:(n:Int)≤K)(a:List U):qt (pick p i)+qt [a]≤K:=by
 have:=qkb p i
 show ((pick p i).length:Int)+1≤_;omega
theorem qkA{l:R}{i:Nat}(h:i<l.length):(i:Int)<qt l:=by unfold qt;omega
theorem qoc(l:R):¬((l.length:Int)<qt l):=by unfold qt;omega
theorem js(i:Nat):(0:Int)≤(i:Int):=by omega
theorem qwr(a:List U):qt [a]=1:=rfl
end Go.Eng

namespace Go.Eng
def dch(d:Nat):UInt8:=UInt8.ofNat (48+d)
def dv(c:UInt8):Nat:=c.toNat-48
def q3L(s:List UInt8):Prop:=∀c,c∈s→48≤c.toNat∧c.toNat≤57
def val(s:List UInt8):Nat:=s.foldl (fun a c=>10*a+dv c) 0
def tNf:Nat→Nat→List UInt8
 | 0,_=>[]
 | f+1,n=>if n<10 then [dch n] else tNf f (n/10)++[dch (n%10)]
def tN(n:Nat):List UInt8:=tNf (n+1) n
def tI(n:Int):List UInt8:=if n<0 then 45::tN n.natAbs else tN n.natAbs
theorem q1r{d:Nat}(h:d<10):(dch d).toNat=48+d:=by
 unfold dch;rw[UInt8.toNat_ofNat'];omega
theorem qjg{d:Nat}(h:d<10):dv (dch d)=d:=by unfold dv;rw[q1r h];omega
theorem qxF{c:UInt8}(h1:48≤c.toNat)(h2:c.toNat≤57):dch (dv c)=c:=by
 apply UInt8.toNat_inj.1
 rw[q1r (by unfold dv;omega)];unfold dv;omega
theorem qgD(s:List UInt8)(c:UInt8):val (s++[c])=10*val s+dv c:=by simp[val,List.foldl_append]
theorem qkE:∀(t:List UInt8) (a:Nat),t.foldl (fun a c=>10*a+dv c) a=a*10^t.length+val t
 | [],a=>by simp[val]
 | c::t,a=>by
  have h1:=qkE t (10*a+dv c)
  have h2:=qkE t (10*0+dv c)
  have h3:val (c::t)=t.foldl (fun a c=>10*a+dv c) (10*0+dv c):=rfl
  rw[h3,h2,List.foldl_cons,h1,List.length_cons,Nat.pow_succ]
  grind
theorem qoA(s t:List UInt8):val (s++t)=val s*10^t.length+val t:=by
 have h:val (s++t)=t.foldl (fun a c=>10*a+dv c) (val s):=by simp[val,List.foldl_append]
 rw[h,qkE]
theorem q4o(c:UInt8)(t:List UInt8):val (c::t)=dv c*10^t.length+val t:=by
 have:=qoA [c] t
 simpa[val] using this
theorem qc3:val []=0:=rfl
theorem qrK(c:UInt8):val [c]=dv c:=by simp[val]
theorem qhh:q3L []:=fun c h=>by cases h
theorem kn{c:UInt8}{s:List UInt8}:q3L (c::s)↔(48≤c.toNat∧c.toNat≤57)∧q3L s:=by
 unfold q3L;simp
theorem q5L{s t:List UInt8}:q3L (s++t)↔q3L s∧q3L t:=by
 unfold q3L;simp only[List.mem_append]
 exact⟨fun h=>⟨fun c hc=>h c (.inl hc),fun c hc=>h c (.inr hc)⟩,fun h c hc=>hc.elim (h.1 c) (h.2 c)⟩
theorem qtV{c:UInt8}(h:48≤c.toNat∧c.toNat≤57):dv c<10:=by unfold dv;omega
theorem q4T:∀{s:List UInt8},q3L s→val s<10^s.length
 | [],_=>by simp[val]
 | c::s,h=>by
  obtain⟨h1,h2⟩:=kn.1 h
  have ih:=q4T h2
  have hd:=qtV h1
  rw[q4o,List.length_cons,Nat.pow_succ]
  have:dv c*10^s.length≤9*10^s.length:=Nat.mul_le_mul_right _ (by omega)
  omega
theorem qp7{d:Nat}(h:d<10):q3L [dch d]:=by
 intro c hc
 simp at hc;subst hc
 rw[q1r h];omega
theorem qxJ:∀(f g n:Nat),n<f→n<g→tNf f n=tNf g n
 | 0,_,n,h,_=>by omega
 | _,0,n,_,h=>by omega
 | f+1,g+1,n,h1,h2=>by
  unfold tNf
  by_cases h:n<10
  ·rw[if_pos h,if_pos h]
  ·rw[if_neg h,if_neg h,qxJ f g (n/10) (by omega) (by omega)]
theorem qqf{n:Nat}(h:n<10):tN n=[dch n]:=by unfold tN tNf;rw[if_pos h]
theorem qrg{n:Nat}(h:10≤n):tN n=tN (n/10)++[dch (n%10)]:=by
 have:tN n=tNf n (n/10)++[dch (n%10)]:=by
  show tNf (n+1) n=_
  rw[tNf,if_neg (by omega)]
 rw[this,qxJ n (n/10+1) (n/10) (by omega) (by omega)];rfl
theorem qom(n:Nat):q3L (tN n)∧tN n≠[]∧val (tN n)=n:=by
 induction n using Nat.strongRecOn with
 | _ n ih=>
  by_cases h:n<10
  ·rw[qqf h];exact⟨qp7 h,by simp,by rw[qrK,qjg h]⟩
  ·rw[qrg (by omega)]
   obtain⟨h1,h2,h3⟩:=ih (n/10) (by omega)
   refine⟨q5L.2 ⟨h1,qp7 (by omega)⟩,by simp,?_⟩
   rw[qgD,h3,qjg (by omega)];omega
theorem zE(n:Nat):q3L (tN n):=(qom n).1
theorem ql9(n:Nat):tN n≠[]:=(qom n).2.1
theorem kP(n:Nat):val (tN n)=n:=(qom n).2.2
theorem qf0(n:Nat):0<(tN n).length:=List.length_pos_iff.2 (ql9 n)
theorem q3O:∀(k n:Nat),n<10^(k+1)→(tN n).length≤k+1
 | 0,n,h=>by rw[qqf (by simpa using h)];simp
 | k+1,n,h=>by
  by_cases h10:n<10
  ·rw[qqf h10];simp
  ·rw[qrg (by omega),List.length_append]
   have:=q3O k (n/10) (by rw[Nat.pow_succ] at h;omega)
   simp;omega
theorem qqp:∀(k n:Nat),10^k≤n→k<(tN n).length
 | 0,n,_=>qf0 n
 | k+1,n,h=>by
  have hp:0<10^k:=Nat.pow_pos (by omega)
  rw[Nat.pow_succ] at h
  rw[qrg (by omega),List.length_append]
  have:=qqp k (n/10) (by omega)
  simp;omega
theorem q3U{k n:Nat}(h:(tN n).length≤k):n<10^k:=by
 have:=q4T (zE n)
 rw[kP] at this
 exact Nat.lt_of_lt_of_le this (Nat.pow_le_pow_right (by omega) h)
def qAa(s:List UInt8):Prop:=s.length=1∨s.getD 0 0≠48
theorem qsk{s:List UInt8}(hd:q3L s)(hn:s≠[])(h:s.getD 0 0≠48):10^(s.length-1)≤val s:=by
 cases s with
 | nil=>exact absurd rfl hn
 | cons c s=>
  obtain⟨h1,h2⟩:=kn.1 hd
  simp at h
  have hc:1≤dv c:=by
   unfold dv
   have:c.toNat≠48:=fun e=>h (UInt8.toNat_inj.1 (by simpa using e))
   omega
  rw[q4o,List.length_cons,Nat.add_sub_cancel]
  have:1*10^s.length≤dv c*10^s.length:=Nat.mul_le_mul_right _ hc
  omega
theorem qxu:∀(n:Nat) {s:List UInt8},s.length=n+1→q3L s→qAa s→tN (val s)=s
 | 0,s,hl,hd,_=>by
  match s,hl with
  | [c],_=>
   have h1:=(kn.1 hd).1
   rw[qrK,qqf (qtV h1),qxF h1.1 h1.2]
 | n+1,s,hl,hd,hz=>by
  obtain⟨i,c,rfl⟩:∃i c,s=i++[c]:=⟨s.dropLast,s.getLast (by intro h;simp[h] at hl),(List.dropLast_concat_getLast _).symm⟩
  have hil:i.length=n+1:=by simpa using hl
  obtain⟨h1,h2⟩:=q5L.1 hd
  have hc:=(kn.1 h2).1
  have hi:i≠[]:=by intro h;simp[h] at hil
  have hz0:i.getD 0 0≠48:=by
   rcases hz with hz|hz
   ·exact absurd (by simpa using hz) hi
   ·cases i with
    | nil=>exact absurd rfl hi
    | cons a i=>simpa using hz
  have hv:1≤val i:=Nat.le_trans (Nat.one_le_pow _ _ (by omega)) (qsk h1 hi hz0)
  have hd10:=qtV hc
  rw[qgD,qrg (n:=10*val i+dv c) (by omega),show (10*val i+dv c)/10=val i by omega,show (10*val i+dv c)%10=dv c by omega,qxF hc.1 hc.2,qxu n hil h1 (.inr hz0)]
theorem qlb{s:List UInt8}(hd:q3L s)(hn:s≠[])(hz:qAa s):s=tN (val s):=
 (qxu (s.length-1) (by have:=List.length_pos_iff.2 hn;omega) hd hz).symm
theorem qno{m n:Nat}(h:tN m=tN n):m=n:=by rw[←kP m,h,kP]
theorem quI(n:Nat):qAa (tN n):=by
 induction n using Nat.strongRecOn with
 | _ n ih=>
  by_cases h:n<10
  ·rw[qqf h];exact .inl rfl
  ·rw[qrg (by omega)]
   right
   by_cases h2:n/10<10
   ·rw[qqf h2]
    intro e
    have:(dch (n/10)).toNat=48:=by
     have e':dch (n/10)=48:=by simpa using e
     rw[e'];rfl
    rw[q1r h2] at this;omega
   ·have h3:(tN (n/10)).length≠1:=by
     have:=qqp 1 (n/10) (by omega);omega
    rcases ih (n/10) (by omega) with h4|h4
    ·exact absurd h4 h3
    ·cases hq:tN (n/10) with
     | nil=>exact absurd hq (ql9 _)
     | cons a i=>rw[hq] at h4;simpa using h4
theorem qye(t:List UInt8):slt [] t=!t.isEmpty:=by cases t<;>rfl
theorem qwH(a b:UInt8)(s t:List UInt8):slt (a::s) (b::t)=(decide (a<b)||(a==b&&slt s t)):=by
 unfold slt
 simp only[Op.bytesLess]
theorem qrh:∀{s t:List UInt8},q3L s→q3L t→s.length=t.length→((slt s t=true)=(val s<val t))
 | [],[],_,_,_=>by simp[qye,qc3]
 | a::s,b::t,h1,h2,hl=>by
  obtain⟨ha,hs⟩:=kn.1 h1
  obtain⟨hb,ht⟩:=kn.1 h2
  have hl':s.length=t.length:=by simpa using hl
  have ih:=qrh hs ht hl'
  have v1:=q4T hs
  have v2:=q4T ht
  rw[qwH,q4o,q4o,hl']
  rw[hl'] at v1
  have hab:(a<b)=(dv a<dv b):=by
   unfold dv;rw[UInt8.lt_iff_toNat_lt];simp only[eq_iff_iff];omega
  have hab2:(a=b)=(dv a=dv b):=by
   unfold dv;rw[←UInt8.toNat_inj];simp only[eq_iff_iff];omega
  simp only[Bool.or_eq_true,decide_eq_true_eq,Bool.and_eq_true,beq_iff_eq,eq_iff_iff,ih,hab,hab2]
  generalize 10^t.length=p at *
  generalize dv a=x at *
  generalize dv b=y at *
  constructor
  ·rintro (h|⟨rfl,h⟩)
   ·have:=Nat.mul_le_mul_right p (show x+1≤y by omega)
    rw[Nat.add_mul] at this;omega
   ·omega
  ·intro h
   rcases Nat.lt_trichotomy x y with h3|h3|h3
   ·exact .inl h3
   ·subst h3;exact .inr ⟨rfl,by omega⟩
   ·have:=Nat.mul_le_mul_right p (show y+1≤x by omega)
    rw[Nat.add_mul] at this;omega
theorem uc{m n:Nat}(h:m≤n):(tN m).length≤(tN n).length:=by
 rcases Nat.lt_or_ge (tN n).length (tN m).length with h1|h1
 ·have h2:=q3U (Nat.le_refl (tN n).length)
  have h3:0<(tN n).length:=qf0 n
  have:=q3O ((tN n).length-1) m (by rw[Nat.sub_add_cancel h3];omega)
  omega
 ·exact h1
theorem qrk(m n:Nat):((tN m).length<(tN n).length∨(tN m).length=(tN n).length∧slt (tN m) (tN n)=true)↔m<n:=by
 constructor
 ·rintro (h|⟨h1,h2⟩)
  ·rcases Nat.lt_or_ge m n with h3|h3
   ·exact h3
   ·have:=uc h3;omega
  ·rw[qrh (zE m) (zE n) h1,kP,kP] at h2;exact h2
 ·intro h
  have h1:=uc (Nat.le_of_lt h)
  rcases Nat.lt_or_ge (tN m).length (tN n).length with h3|h3
  ·exact .inl h3
  ·have h4:(tN m).length=(tN n).length:=by omega
   exact .inr ⟨h4,by rw[qrh (zE m) (zE n) h4,kP,kP];exact h⟩
theorem qsY(s:List UInt8):val (48::s)=val s:=by rw[q4o];simp[dv]
theorem qlW(n:Nat)(s:List UInt8):val (List.replicate n 48++s)=val s:=by
 induction n with
 | zero=>rfl
 | succ n ih=>rw[List.replicate_succ,List.cons_append,qsY,ih]
theorem qiF(n:Nat):q3L (List.replicate n 48):=by
 intro c hc
 rw[(List.mem_replicate.1 hc).2];decide
def rI(l:List Int):R:=l.map fun v=>[.i v]
theorem qhL(l:List Int):qt (rI l)=l.length:=by simp[qt,rI]
theorem qxN(l:List Int)(i:Int):cI (rI l) i 0=l.getD i.toNat 0:=by
 unfold cI wY rI
 simp only[List.getD_eq_getElem?_getD,List.getElem?_map]
 cases l[i.toNat]?<;>rfl
theorem qt5(x v:U):qq1 [x] 0 [v]=[v]:=rfl
theorem qpT(l:List Int)(i v:Int):qbm (rI l) i 0 [.i v]=rI (l.set i.toNat v):=by
 unfold qbm rI
 apply List.ext_getElem?
 intro j
 by_cases hj:j=i.toNat
 ·subst hj
  by_cases hl:i.toNat<l.length
  ·simp[hl,List.getD_eq_getElem?_getD,qt5]
  ·rw[List.getElem?_eq_none (by simp;omega),List.getElem?_eq_none (by simp;omega)]
 ·rw[List.getElem?_set_ne (Ne.symm hj),List.getElem?_map,List.getElem?_map,List.getElem?_set_ne (Ne.symm hj)]
theorem qfZ(n v:Int):q2n n [.i v]=rI (List.replicate n.toNat v):=by simp[q2n,rI]
theorem qzj(l:List Int):qeC (rI l)=l.map fun v=>UInt8.ofNat v.toNat:=by
 unfold qeC rI
 rw[List.map_map]
 rfl
theorem qzg(l:List Int)(i:Int)(s:List UInt8):qqM (rI l) i s=rI (l.take i.toNat++s.map (fun c=>(c.toNat:Int))++l.drop (i.toNat+s.length)):=by
 unfold qqM rI
 simp[List.map_take,List.map_drop]
theorem qj5(s:List UInt8):qeC (rI (s.map fun c=>(c.toNat:Int)))=s:=by
 rw[qzj,List.map_map]
 have:((fun v:Int=>UInt8.ofNat v.toNat)∘fun c:UInt8=>(c.toNat:Int))=id:=by
  funext c;simp
 rw[this,List.map_id]
theorem qgb{s:List UInt8}{i:Nat}(h:i<s.length):sat s (i:Int)=(s[i].toNat:Int):=by
 unfold sat
 simp[List.getD_eq_getElem?_getD,h]
theorem qS(s t:List UInt8):(seq s t=true)=(s=t):=by simp[seq]
theorem qyF{x:Int}(h:48≤x∧x≤255):qA .u8 x 48=x-48:=by
 unfold qA IntKind.wrap
 simp[IntKind.signed,IntKind.bits];omega
theorem qnk{x:Int}(h:0≤x∧x≤255):vu .u8 x=x:=by
 unfold vu IntKind.wrap
 simp[IntKind.signed,IntKind.bits];omega
theorem qkf(a b:Nat):q4Q (a:Int) (b:Int)=((a%b:Nat):Int):=by
 unfold q4Q;rw[Int.tmod_eq_emod_of_nonneg (by omega)];rfl
theorem qs9{a b:Nat}(h:a<9223372036854775808):jG .i64 (a:Int) (b:Int)=((a/b:Nat):Int):=by
 unfold jG
 rw[Int.tdiv_eq_ediv_of_nonneg (by omega)]
 have:(a:Int)/(b:Int)=((a/b:Nat):Int):=rfl
 have h2:a/b≤a:=Nat.div_le_self a b
 rw[this]
 generalize a/b=q at *
 unfold IntKind.wrap
 simp[IntKind.signed,IntKind.bits];omega
theorem vU{S:List PV→TR}(I:Nat→List PV→Prop)(Q:Nat→List PV→Prop){n:Nat}(hn:n<9223372036854775808)
  (h:∀k ps,k≤n→I k ps→(∃k' qs,k'<k∧(S ps).run=some (0,qs)∧I k' qs)∨∃j qs,(S ps).run=some (j+1,qs)∧Q j qs) {ps:List PV} (h0:I n ps):∃j qs,(qg S ps).run=some (j,qs)∧Q j qs:=by
 have key:∀m k ps,k≤n→k<m→I k ps→∃j qs,(qhY S m ps).run=some (j,qs)∧Q j qs:=by
  intro m
  induction m with
  | zero=>intro k ps _ h;omega
  | succ m ih=>
   intro k ps hk hm hI
   rcases h k ps hk hI with⟨k',qs,h1,h2,h3⟩|⟨j,qs,h1,h2⟩
   ·obtain⟨j,rs,g1,g2⟩:=ih k' qs (by omega) (by omega) h3
    exact⟨j,rs,by rw[qex h2];exact g1,g2⟩
   ·exact⟨j,qs,q5W h1,h2⟩
 exact key qdk n ps (Nat.le_refl _) (Nat.lt_trans hn (by unfold qdk;decide)) h0
end Go.Eng

namespace Go.Eng
theorem q9k{m:Int}(h:m<0):tI m=45::tN m.natAbs:=by unfold tI;rw[if_pos h]
theorem qgg{m:Int}(h:¬m<0):tI m=tN m.natAbs:=by unfold tI;rw[if_neg h]
theorem ku(n:Nat):tI (n:Int)=tN n:=by rw[qgg (by omega)];rfl
theorem qry:tN 0=[48]:=rfl
theorem qet{s:List UInt8}(hd:q3L s)(hn:s≠[]):∃c t,s=c::t∧48≤c.toNat∧c.toNat≤57:=by
 cases s with
 | nil=>exact absurd rfl hn
 | cons c t=>exact⟨c,t,rfl,(kn.1 hd).1⟩
theorem qpX(m:Int):(tI m).length≤(tN m.natAbs).length+1:=by unfold tI;split<;>simp
theorem qlG(m:Int):0<(tI m).length:=by
 have:=qf0 m.natAbs
 unfold tI;split<;>simp<;>omega
theorem qpu{m n:Int}(h:tI m=tI n):m=n:=by
 have key:∀{m n:Int},m<0→¬n<0→tI m≠tI n:=by
  intro m n h1 h2 e
  rw[q9k h1,qgg h2] at e
  obtain⟨c,t,hc,h3,h4⟩:=qet (zE n.natAbs) (ql9 _)
  rw[hc] at e
  have:=(List.cons.inj e).1
  rw[←this] at h3
  exact absurd h3 (by decide)
 by_cases h1:m<0<;>by_cases h2:n<0
 ·rw[q9k h1,q9k h2] at h
  have:=qno (List.cons.inj h).2
  omega
 ·exact absurd h (key h1 h2)
 ·exact absurd h.symm (key h2 h1)
 ·rw[qgg h1,qgg h2] at h
  have:=qno h
  omega
theorem qsw(m:Int):(sat (tI m) 0=45)=(m<0):=by
 by_cases h:m<0
 ·rw[q9k h];simp[sat,h]
 ·rw[qgg h]
  obtain⟨c,t,hc,h3,h4⟩:=qet (zE m.natAbs) (ql9 _)
  rw[hc]
  simp[sat,h];omega
theorem zU(m:Int):(qo [.s (tI m)]).run=some (0,[.s (tN m.natAbs)]):=by
 rw[qhI]
 have hp:=qlG m
 have hne:¬tI m=[]:=fun h=>by rw[h] at hp;simp at hp
 have h1:(0:Int)<ql (tI m):=by unfold ql;omega
 have h2:(1:Int)≤ql (tI m):=by omega
 simp only[STD,qS,hne,h1,h2,qsw,Int.le_refl,show (0:Int)≤ql (tI m) by omega,and_self,show (0:Int)≤1 by omega]
 by_cases h:m<0
 ·rw[if_pos h,q9k h];simp[q9J,ql]
 ·rw[if_neg h,qgg h]
theorem vd(m:Int):(qC [.s (tI m)]).run=some (0,[.b (decide (m<0))]):=by
 rw[qmk]
 have hp:=qlG m
 have h1:(0:Int)<ql (tI m):=by unfold ql;omega
 have h2:ieq (sat (tI m) 0) 45=decide (m<0):=by
  have:=qsw m
  by_cases h:m<0<;>simp[ieq,h] at this ⊢<;>exact this
 simp only[STD,h1,h2,Int.le_refl,and_self]
theorem uj(n:Nat)(b:Bool)(hl:(tN n).length≤100000000):(qJ [.s (tN n),.b b]).run=some (0,[.s (tI (if b then -(n:Int) else n))]):=by
 rw[qkk]
 have h1:ql [45]+ql (tN n)≤140737488355328:=by show (1:Int)+((tN n).length:Int)≤_;omega
 have h0:(tN n=[48])=(n=0):=by
  rw[←qry];exact propext ⟨fun h=>qno h,fun h=>by rw[h]⟩
 simp only[STD,qS,h1,h0]
 cases b with
 | false=>simp[ku]
 | true=>
  by_cases hn:n=0
  ·subst hn;simp[tI,qry]
  ·have:(-(n:Int))<0:=by omega
   simp[hn,q9k this,qaw]
theorem qa5(m:Int)(hl:(tN m.natAbs).length≤100000000):(zx [.s (tI m)]).run=some (0,[.s (tI (-m))]):=by
 rw[qlO]
 simp only[STD,zU,vd,uj _ _ hl]
 have e:(if ¬m<0 then -(m.natAbs:Int) else (m.natAbs:Int))=-m:=by
  by_cases h:m<0
  ·rw[if_neg (by simp[h])];omega
  ·rw[if_pos (by simp[h])];omega
 rw[e]
theorem q7h{s:List UInt8}{i:Nat}(h:i<s.length):val (s.take (i+1))=10*val (s.take i)+dv s[i]:=by
 rw[List.take_add_one,List.getElem?_eq_getElem h,Option.toList_some,qgD]
theorem qqv{s:List UInt8}(h:q3L s)(i:Nat):q3L (s.take i):=fun c hc=>h c (List.mem_of_mem_take hc)
theorem quS{s:List UInt8}(h:q3L s)(i:Nat):q3L (s.drop i):=fun c hc=>h c (List.mem_of_mem_drop hc)
theorem qel{s:List UInt8}(h:q3L s){i:Nat}(hi:i<s.length):48≤s[i].toNat∧s[i].toNat≤57:=h _ (List.getElem_mem hi)
theorem qs2{s:List UInt8}(h:q3L s){i:Nat}(hi:i<s.length):vu .i64 (qA .u8 (sat s (i:Int)) 48)=(dv s[i]:Int)∧dv s[i]<10:=by
 have hd:=qel h hi
 rw[qgb hi,qyF (by omega),qpe (by omega)]
 unfold dv;omega
theorem qfD(m:Int)(hl:(tN m.natAbs).length≤18):(jQ [.s (tI m)]).run=some (0,[.i m]):=by
 rw[qlr]
 have hd:=zE m.natAbs
 have k:=yK (S:=yG) (fun i=>[.s (tI m),.i (val ((tN m.natAbs).take i):Int),.s (tN m.natAbs),.i (i:Int)]) (0,[.s (tI m),.i (m.natAbs:Int)]) (tN m.natAbs).length (by omega) (fun i hi=>by
  rw[qaK]
  obtain⟨e1,e2⟩:=qs2 hd hi
  have hv:=q4T (qqv hd i)
  have hv2:10^((tN m.natAbs).take i).length≤100000000000000000:=Nat.le_trans (Nat.pow_le_pow_right (n:=10) (by omega) (show _≤17 by rw[List.length_take];omega)) (by decide)
  have hv3:=Nat.lt_of_lt_of_le hv hv2
  clear hv hv2
  have hlt:(i:Int)<ql (tN m.natAbs):=by unfold ql;omega
  have e3:qh .i64 (uM .i64 10 (val ((tN m.natAbs).take i):Int)) (dv (tN m.natAbs)[i]:Int)=((10*val ((tN m.natAbs).take i)+dv (tN m.natAbs)[i]:Nat):Int):=by
   rw[q7T (by omega),zc (by omega)];omega
  simp only[STD,hlt,js,and_self,e1,kZ hi (by omega),q7h hi,e3]) (by
  rw[qaK]
  have:¬((tN m.natAbs).length:Int)<ql (tN m.natAbs):=by unfold ql;omega
  simp only[STD,this,List.take_length,kP])
 have k':(qg yG [.s (tI m),.i 0,.s (tN m.natAbs),.i 0]).run=_:=k
 have hm:m.natAbs<1000000000000000000:=Nat.lt_of_lt_of_le (q3U hl) (by decide)
 have hneg:m<0→qA .i64 0 (m.natAbs:Int)=m:=fun h=>by rw[qo4 (by omega)];omega
 have hpos:¬m<0→(m.natAbs:Int)=m:=fun h=>by omega
 clear hm k hd
 simp only[STD,zU,k',vd]
 by_cases h:m<0
 ·rw[if_pos h,hneg h]
 ·rw[if_neg h,hpos h]
theorem q4M(m n:Int):(zN [.s (tI m),.s (tI n)]).run=some (0,if (tN m.natAbs).length≤18∧(tN n.natAbs).length≤18 then [.i m,.i n,.b true] else [.i 0,.i 0,.b false]):=by
 rw[qmy]
 have e:∀t:List UInt8,(18<ql t)=¬(t.length≤18):=fun t=>by unfold ql;simp only[eq_iff_iff];omega
 by_cases h1:(tN m.natAbs).length≤18
 ·by_cases h2:(tN n.natAbs).length≤18
  ·simp only[STD,zU,e,h1,h2,qfD m h1,qfD n h2,and_self]
  ·simp only[STD,zU,e,h1,h2,and_false]
 ·simp only[STD,zU,e,h1,false_and]
theorem qnV{d:Int}(h0:0≤d)(h:d<10):qeC [[.i (vu .u8 (qh .i64 48 d))]]=[dch d.toNat]:=by
 rw[zc (by omega),qnk (by omega)]
 show [UInt8.ofNat (48+d).toNat]=[UInt8.ofNat (48+d.toNat)]
 rw[show (48+d).toNat=48+d.toNat by omega]
theorem qvi{S:List PV→TR}(hS:∀(y0:Int) (y1:List UInt8),S [.i y0,.s y1]=(.br (ilt 9 y0) (.br (ile ((ql (qeC [[(.i (vu .u8 (qh .i64 48 (q4Q y0 10))))]]))+(ql y1)) 140737488355328) (.leaf (0,[(.i (jG .i64 y0 10)),(.s (qaw (qeC [[(.i (vu .u8 (qh .i64 48 (q4Q y0 10))))]]) y1))])) .fail) (.leaf (1,[(.i y0),(.s y1)]))))
  (n:Nat) (hn:n<9223372036854775808):∃(a:Nat) (r:List UInt8),(qg S [.i (n:Int),.s []]).run=some (0,[.i (a:Int),.s r])∧a<10∧tN n=tN a++r:=by
 have hlen:(tN n).length≤19:=q3O 18 n (by omega)
 obtain⟨j,qs,h1,h2⟩:=vU (S:=S) (fun k ps=>∃(r:List UInt8),ps=[.i (k:Int),.s r]∧tN n=tN k++r) (fun j qs=>∃(a:Nat) (r:List UInt8),j=0∧qs=[.i (a:Int),.s r]∧a<10∧tN n=tN a++r) hn (fun k ps hk ⟨r,hps,ht⟩=>by
  subst hps
  by_cases h9:k<10
  ·right
   have:¬(9:Int)<(k:Int):=by omega
   exact⟨0,_,by rw[hS];simp only[STD,this],k,r,rfl,rfl,h9,ht⟩
  ·left
   have h9':(9:Int)<(k:Int):=by omega
   have hr:q4Q (k:Int) 10=((k%10:Nat):Int):=qkf k 10
   have hq:jG .i64 (k:Int) 10=((k/10:Nat):Int):=qs9 (b:=10) (by omega)
   have hd:qeC [[(.i (vu .u8 (qh .i64 48 (q4Q (k:Int) 10))))]]=[dch (k%10)]:=by
    rw[hr,qnV (by omega) (by omega)];rfl
   have hrl:r.length≤19:=by
    have:=congrArg List.length ht
    rw[List.length_append] at this;omega
   have hle:ql [dch (k%10)]+ql r≤140737488355328:=by
    show (1:Int)+(r.length:Int)≤_;omega
   refine⟨k/10,[.i ((k/10:Nat):Int),.s ([dch (k%10)]++r)],by omega,?_,_,rfl,?_⟩
   ·rw[hS];simp only[STD,h9',hd,hq,hle];rfl
   ·rw[ht,qrg (by omega),List.append_assoc]) (ps:=[.i (n:Int),.s []]) ⟨[],rfl,by simp⟩
 obtain⟨a,r,rfl,rfl,h3,h4⟩:=h2
 exact⟨a,r,h1,h3,h4⟩
theorem qv5{a:Nat}{r:List UInt8}(ha:a<10):qaw (qeC [[(.i (vu .u8 (qh .i64 48 (a:Int))))]]) r=tN a++r:=by
 rw[qnV (by omega) (by omega),qqf ha];rfl
theorem of_le{a:Nat}{r:List UInt8}(ha:a<10)(hr:r.length≤1000):ql (qeC [[(.i (vu .u8 (qh .i64 48 (a:Int))))]])+ql r≤140737488355328:=by
 rw[qnV (by omega) (by omega)]
 show (1:Int)+(r.length:Int)≤_;omega
theorem qxD{x:Int}(h1:-9223372036854775808<x)(h2:x≤9223372036854775807):qA .i64 0 x=-x:=qo4 (by omega)
theorem qzv(n:Nat)(hn:n<9223372036854775808):(q3q [.i (n:Int)]).run=some (0,[.s (tN n)])∧(zO [.i (n:Int)]).run=some (0,[.s (tN n)]):=by
 obtain⟨a,r,h1,h2,h3⟩:=qvi qmW n hn
 obtain⟨a',r',h1',h2',h3'⟩:=qvi qoh n hn
 have hlen:(tN n).length≤19:=q3O 18 n (by omega)
 have hr:r.length≤1000:=by have:=congrArg List.length h3;rw[List.length_append] at this;omega
 have hr':r'.length≤1000:=by have:=congrArg List.length h3';rw[List.length_append] at this;omega
 have hneg:qA .i64 0 (n:Int)=-(n:Int):=qxD (by omega) (by omega)
 have h0:((n:Int)=-(n:Int))=(n=0):=by simp only[eq_iff_iff];omega
 have hlt:¬(n:Int)<0:=by omega
 have hz:((n:Int)=0)=(n=0):=by simp only[eq_iff_iff];omega
 constructor
 ·rw[qpP]
  simp only[STD,hneg,h0,hz,hlt,h1,qv5 h2,of_le h2 hr,←h3]
  by_cases h:n=0<;>simp[h]
 ·rw[qln]
  simp only[STD,hneg,h0,hz,hlt,h1',qv5 h2',of_le h2' hr',←h3']
  by_cases h:n=0<;>simp[h]
theorem q20(n:Int)(h1:-9223372036854775808<n)(h2:n≤9223372036854775807):(zO [.i n]).run=some (0,[.s (tI n)]):=by
 by_cases h:n<0
 ·obtain⟨a,ha⟩:∃a:Nat,n=-(a:Int):=⟨n.natAbs,by omega⟩
  subst ha
  have hneg:qA .i64 0 (-(a:Int))=(a:Int):=by rw[qxD (by omega) (by omega)];omega
  have hlen:(tN a).length≤19:=q3O 18 a (by omega)
  have ht:=qa5 (a:Int) (by simp;omega)
  rw[ku] at ht
  rw[qln]
  have e1:¬(-(a:Int)=(a:Int)):=by omega
  simp only[STD,hneg,h,e1,(qzv a (by omega)).1,ht]
 ·obtain⟨a,rfl⟩:∃a:Nat,n=(a:Int):=⟨n.toNat,by omega⟩
  rw[(qzv a (by omega)).2,ku]
theorem qdn(m n:Nat):(u4 [.s (tN m),.s (tN n)]).run=some (0,[.b (decide (m<n))]):=by
 rw[qp1]
 have h:=qrk m n
 have e1:(ql (tN m)<ql (tN n))=((tN m).length<(tN n).length):=by unfold ql;simp only[eq_iff_iff];omega
 have e2:(ql (tN m)=ql (tN n))=((tN m).length=(tN n).length):=by unfold ql;simp only[eq_iff_iff];omega
 simp only[STD,e1,e2]
 by_cases h1:(tN m).length<(tN n).length
 ·have:m<n:=h.1 (.inl h1)
  simp[h1,this]
 ·by_cases h2:(tN m).length=(tN n).length
  ·cases hs:slt (tN m) (tN n) with
   | true=>simp[h2,h.1 (.inr ⟨h2,hs⟩)]
   | false=>
    have:¬m<n:=fun hh=>by rcases h.2 hh with h3|⟨_,h3⟩<;>simp_all
    simp[h2,this]
  ·have:¬m<n:=fun hh=>by rcases h.2 hh with h3|⟨h3,_⟩<;>omega
   simp[h1,h2,this]
end Go.Eng

namespace Go.Eng
theorem qjx(s:List UInt8)(n:Nat)(h0:0<n)(hn:n≤1000000000)(hl:s.length≤n):(q1j [.s s,.i (n:Int)]).run=some (0,[.s (List.replicate (n-s.length) 48++s)]):=by
 rw[qoz]
 have k:=yK (S:=q0I) (fun i=>[.s s,.i (n:Int),.i (i:Int),.r (rI (List.replicate i 48++List.replicate (n-i) 0))]) (0,[.s s,.i (n:Int),.r (rI (List.replicate n 48))]) n (by omega) (fun i hi=>by
  rw[qdM]
  have h1:(i:Int)<(n:Int):=by omega
  have h2:(i:Int)<qt (rI (List.replicate i 48++List.replicate (n-i) 0)):=by rw[qhL];simp;omega
  have h3:(List.replicate i (48:Int)++List.replicate (n-i) 0).set (i:Int).toNat 48=List.replicate (i+1) 48++List.replicate (n-(i+1)) 0:=by
   rw[Int.toNat_natCast,List.set_append_right _ _ (by simp),List.length_replicate,Nat.sub_self]
   rw[show n-i=(n-(i+1))+1 by omega,List.replicate_succ,List.set_cons_zero,List.replicate_succ']
   simp
  simp only[STD,h1,h2,js,and_self,kZ hi (by omega),qpT,h3]) (by
  rw[qdM]
  simp only[STD,Int.lt_irrefl,Nat.sub_self,List.replicate_zero,List.append_nil])
 have k':(qg q0I [.s s,.i (n:Int),.i 0,.r (rI (List.replicate n 0))]).run=some (0,[.s s,.i (n:Int),.r (rI (List.replicate n 48))]):=by simpa using k
 have e1:qA .i64 (n:Int) (ql s)=((n-s.length:Nat):Int):=by
  rw[yn (by unfold ql;omega)];unfold ql;omega
 have e2:(0:Int)≤(n:Int):=by omega
 have e3:(n:Int)≤140737488355328:=by omega
 have e4:(0:Int)<qt (rI (List.replicate n 48)):=by rw[qhL,List.length_replicate];omega
 have e5:((n-s.length:Nat):Int)≤qt (rI (List.replicate n 48)):=by rw[qhL,List.length_replicate];omega
 have e6:ql s≤qs4 (qt (rI (List.replicate n 48))) ((n-s.length:Nat):Int):=by rw[qhL,List.length_replicate];unfold qs4 ql;omega
 have e7:qeC (rI (List.take ((n-s.length:Nat):Int).toNat (List.replicate n 48)++s.map (fun c=>(c.toNat:Int))++List.drop (((n-s.length:Nat):Int).toNat+s.length) (List.replicate n 48)))=List.replicate (n-s.length) 48++s:=by
  rw[Int.toNat_natCast,List.take_replicate,List.drop_replicate,Nat.min_eq_left (by omega),show n-(n-s.length+s.length)=0 by omega,List.replicate_zero,List.append_nil]
  have:List.replicate (n-s.length) (48:Int)=(List.replicate (n-s.length) (48:UInt8)).map fun c=>(c.toNat:Int):=by rw[List.map_replicate];rfl
  rw[this,←List.map_append,qj5]
 simp only[STD,qfZ,Int.toNat_natCast,e2,e3,and_self,k',e4,e5,e1,js,e6,qzg]
 rw[Int.toNat_natCast] at e7
 rw[e7]
theorem q9A{s:List UInt8}(hd:q3L s)(hn:s≠[])(hl:s.length≤1000000000):(zy [.s s]).run=some (0,[.s (tN (val s))]):=by
 rw[qpa]
 obtain⟨j,qs,h1,h2⟩:=vU (S:=q2x) (fun k ps=>∃t:List UInt8,ps=[.s t]∧t.length=k∧q3L t∧t≠[]∧val t=val s) (fun j qs=>j=0∧qs=[.s (tN (val s))]) (n:=s.length) (by omega) (fun k ps hk ⟨t,hps,hlk,hdt,hnt,hv⟩=>by
  subst hps
  have hp:0<t.length:=List.length_pos_iff.2 hnt
  have hs0:(0:Int)<ql t:=by unfold ql;omega
  rw[qkS]
  by_cases h1:1<t.length
  ·have hs1:(1:Int)<ql t:=by unfold ql;omega
   obtain⟨c,u,rfl⟩:∃c u,t=c::u:=by
    cases t with
    | nil=>exact absurd rfl hnt
    | cons c u=>exact⟨c,u,rfl⟩
   have hsat:sat (c::u) 0=(c.toNat:Int):=by simp[sat]
   by_cases h48:c=48
   ·left
    subst h48
    have hu:u≠[]:=by intro h;subst h;simp at h1
    refine⟨u.length,[.s u],by simp at hlk;omega,?_,u,rfl,rfl,(kn.1 hdt).2,hu,by rw[←hv,qsY]⟩
    have hsub:q9J (48::u) 1 (ql (48::u))=u:=by simp[q9J,ql]
    have h48':(((48:UInt8).toNat:Nat):Int)=48:=rfl
    simp only[STD,hs1,hs0,hsat,h48',Int.le_refl,and_self,Int.le_of_lt hs1,Int.le_of_lt hs0,show (0:Int)≤1 by omega,hsub]
   ·right
    have hne:¬((c.toNat:Int)=48):=fun h=>h48 (UInt8.toNat_inj.1 (by show c.toNat=48;omega))
    refine⟨0,[.s (c::u)],?_,rfl,?_⟩
    ·simp only[STD,hs1,hs0,hsat,hne,Int.le_refl,and_self]
    ·rw[←hv,←qlb hdt hnt (.inr (by simpa using h48))]
  ·right
   have hs1:¬(1:Int)<ql t:=by unfold ql;omega
   refine⟨0,[.s t],?_,rfl,?_⟩
   ·simp only[STD,hs1]
   ·rw[←hv,←qlb hdt hnt (.inl (by omega))]) (ps:=[.s s]) ⟨s,rfl,rfl,hd,hn,rfl⟩
 obtain⟨rfl,rfl⟩:=h2
 simp only[STD,h1]
theorem qwG{x y:UInt8}(hx:48≤x.toNat∧x.toNat≤57)(hy:48≤y.toNat∧y.toNat≤57)(c:Nat)(hc:c≤1)(add:Bool) :
  ∃(d:UInt8) (c':Nat),(48≤d.toNat∧d.toNat≤57)∧c'≤1∧(q0H [.i x.toNat,.i y.toNat,.i (c:Int),.b add]).run=some (0,[.i d.toNat,.i (c':Int)]) ∧
   (if add then dv x+dv y+c=dv d+10*c' else dv x+10*c'=dv y+c+dv d):=by
 have ex:vu .i64 (qA .u8 (x.toNat:Int) 48)=(dv x:Int):=by rw[qyF (by omega),qpe (by omega)];unfold dv;omega
 have ey:vu .i64 (qA .u8 (y.toNat:Int) 48)=(dv y:Int):=by rw[qyF (by omega),qpe (by omega)];unfold dv;omega
 have lx:=qtV hx
 have ly:=qtV hy
 have mk:∀v:Nat,v<10→((dch v).toNat:Int)=48+v:=fun v hv=>by rw[q1r hv];omega
 rw[qlQ]
 simp only[STD,ex,ey]
 cases add with
 | true=>
  simp only[STD]
  have e1:qh .i64 (qh .i64 (dv x:Int) (dv y:Int)) (c:Int)=((dv x+dv y+c:Nat):Int):=by rw[zc (x:=(dv x:Int)) (by omega),zc (by omega)];omega
  rw[e1]
  by_cases h9:9<dv x+dv y+c
  ·have h9':(9:Int)<((dv x+dv y+c:Nat):Int):=by omega
   refine⟨dch (dv x+dv y+c-10),1,by rw[q1r (by omega)];omega,by omega,?_,by rw[qjg (by omega)];omega⟩
   rw[if_pos h9',zc (by omega),yn (by omega),qnk (by omega),mk _ (by omega)]
   rw[show (48:Int)+((dv x+dv y+c:Nat):Int)-10=48+((dv x+dv y+c-10:Nat):Int) by omega];rfl
  ·have h9':¬(9:Int)<((dv x+dv y+c:Nat):Int):=by omega
   have h0:¬((dv x+dv y+c:Nat):Int)<0:=by omega
   refine⟨dch (dv x+dv y+c),0,by rw[q1r (by omega)];omega,by omega,?_,by rw[qjg (by omega)];omega⟩
   rw[if_neg h9',if_neg h0,zc (by omega),qnk (by omega),mk _ (by omega)];rfl
 | false=>
  simp only[STD]
  have e1:qA .i64 (qA .i64 (dv x:Int) (dv y:Int)) (c:Int)=(dv x:Int)-dv y-c:=by rw[yn (x:=(dv x:Int)) (by omega),yn (by omega)]
  rw[e1]
  have h9':¬(9:Int)<(dv x:Int)-dv y-c:=by omega
  rw[if_neg h9']
  by_cases h0:(dv x:Int)-dv y-c<0
  ·refine⟨dch (dv x+10-dv y-c),1,by rw[q1r (by omega)];omega,by omega,?_,?_⟩
   ·rw[if_pos h0,zc (x:=48) (by omega),zc (by omega),qnk (by omega),mk _ (by omega)]
    rw[show (48:Int)+((dv x:Int)-dv y-c)+10=48+((dv x+10-dv y-c:Nat):Int) by omega];rfl
   ·rw[qjg (by omega)];omega
  ·refine⟨dch (dv x-dv y-c),0,by rw[q1r (by omega)];omega,by omega,?_,?_⟩
   ·rw[if_neg h0,zc (by omega),qnk (by omega),mk _ (by omega)]
    rw[show (48:Int)+((dv x:Int)-dv y-c)=48+((dv x-dv y-c:Nat):Int) by omega];rfl
   ·rw[qjg (by omega)];omega
theorem qvc{s:List UInt8}{k:Nat}(h:k<s.length):s.drop k=s[k]::s.drop (k+1):=(List.drop_eq_getElem_cons h)
theorem qsW{s:List UInt8}{k:Nat}(h:k<s.length):val (s.drop k)=dv s[k]*10^(s.length-(k+1))+val (s.drop (k+1)):=by
 rw[qvc h,q4o,List.length_drop]
theorem qqs{a b:List UInt8}{n:Nat}(ha:q3L a)(hb:q3L b)(hla:a.length=n)(hlb:b.length=n)(hn:n≤100000001)(add:Bool) :
  ∃(t:List UInt8) (c:Nat),(qg kJ [.s a,.s b,.b add,.i 0,.i ((n:Int)-1),.r (rI (List.replicate n 0))]).run=some (0,[.r (rI (t.map fun c=>(c.toNat:Int)))])∧q3L t∧t.length=n ∧
   (if add then val a+val b=val t+c*10^n else val a+c*10^n=val b+val t):=by
 obtain⟨j,qs,h1,h2⟩:=vU (S:=kJ) (fun k ps=>∃(t:List UInt8) (c:Nat),ps=[.s a,.s b,.b add,.i (c:Int),.i ((k:Int)-1),.r (rI (List.replicate k 0++t.map fun c=>(c.toNat:Int)))]∧c≤1∧q3L t∧k+t.length=n ∧
   (if add then val (a.drop k)+val (b.drop k)=val t+c*10^(n-k) else val (a.drop k)+c*10^(n-k)=val (b.drop k)+val t))
  (fun j qs=>j=0∧∃(t:List UInt8) (c:Nat),qs=[.r (rI (t.map fun c=>(c.toNat:Int)))]∧q3L t∧t.length=n∧(if add then val a+val b=val t+c*10^n else val a+c*10^n=val b+val t)) (n:=n) (by omega) (fun k ps hk ⟨t,c,hps,hc,hdt,hlt,hrel⟩=>by
  subst hps
  rw[qjJ]
  cases k with
  | zero=>
   right
   have:¬(0:Int)≤((0:Nat):Int)-1:=by omega
   refine⟨0,[.r (rI (t.map fun c=>(c.toNat:Int)))],?_,rfl,t,c,rfl,hdt,by omega,by simpa using hrel⟩
   simp only[STD,this,List.replicate_zero,List.nil_append]
  | succ k=>
   left
   have e0:((k+1:Nat):Int)-1=(k:Int):=by omega
   rw[e0]
   have hka:k<a.length:=by omega
   have hkb:k<b.length:=by omega
   obtain⟨d,c',hd,hc',hrun,hcol⟩:=qwG (qel ha hka) (qel hb hkb) c hc add
   have h3:(k:Int)<ql a:=by unfold ql;omega
   have h4:(k:Int)<ql b:=by unfold ql;omega
   have h5:(k:Int)<qt (rI (List.replicate (k+1) 0++t.map fun c=>(c.toNat:Int))):=by rw[qhL];simp;omega
   have h6:(List.replicate (k+1) (0:Int)++t.map fun c=>(c.toNat:Int)).set (k:Int).toNat (d.toNat:Int)=List.replicate k 0++(d::t).map fun c=>(c.toNat:Int):=by
    rw[Int.toNat_natCast,List.replicate_succ',List.append_assoc,List.set_append_right _ _ (by simp),List.length_replicate,Nat.sub_self];rfl
   have h7:qA .i64 (k:Int) 1=(k:Int)-1:=yn (by omega)
   refine⟨k,[.s a,.s b,.b add,.i (c':Int),.i ((k:Int)-1),.r (rI (List.replicate k 0++(d::t).map fun c=>(c.toNat:Int)))],by omega,?_,d::t,c',rfl,hc',kn.2 ⟨hd,hdt⟩,by simp;omega,?_⟩
   ·simp only[STD,js,h3,h4,h5,and_self,qgb hka,qgb hkb,hrun,qpT,h6,h7]
   ·rw[qsW hka,qsW hkb,q4o,hla,hlb,show t.length=n-(k+1) by omega,show n-k=(n-(k+1))+1 by omega,Nat.pow_succ]
    generalize 10^(n-(k+1))=p at *
    cases add with
    | true=>
     simp only[↓reduceIte] at hrel hcol ⊢
     have:=congrArg (·*p) hcol
     simp only[Nat.add_mul] at this
     grind
    | false=>
     simp only[Bool.false_eq_true,↓reduceIte] at hrel hcol ⊢
     have:=congrArg (·*p) hcol
     simp only[Nat.add_mul] at this
     grind) (ps:=[.s a,.s b,.b add,.i 0,.i ((n:Int)-1),.r (rI (List.replicate n 0))]) ⟨[],0,by simp,by omega,qhh,by simp,by
    rw[List.drop_eq_nil_of_le (by omega),List.drop_eq_nil_of_le (by omega)];cases add<;>simp[qc3]⟩
 obtain⟨rfl,t,c,rfl,h3,h4,h5⟩:=h2
 exact⟨t,c,h1,h3,h4,h5⟩
theorem quP{m n t c p:Nat}{add:Bool}(hm:m<p)(hn:n<p)(ht:t<p*10)(h4:if add then m+n=t+c*(p*10) else m+c*(p*10)=n+t)(hle:add=false→n≤m):t=if add then m+n else m-n:=by
 have hc0:c=0:=by
  rcases Nat.eq_zero_or_pos c with h|h
  ·exact h
  ·exfalso
   have h5:1*(p*10)≤c*(p*10):=Nat.mul_le_mul_right (p*10) h
   cases add with
   | true=>simp only[↓reduceIte] at h4;omega
   | false=>simp only[Bool.false_eq_true,↓reduceIte] at h4;have:=hle rfl;omega
 subst hc0
 cases add with
 | true=>simp only[↓reduceIte] at h4 ⊢;omega
 | false=>simp only[Bool.false_eq_true,↓reduceIte] at h4 ⊢;omega
theorem qoK(a b:Nat):qd5 (a:Int) (b:Int)=((max a b:Nat):Int):=by unfold qd5;split<;>omega
theorem q7I(m n:Nat)(add:Bool)(hm:(tN m).length≤100000000)(hn:(tN n).length≤100000000)(hle:add=false→n≤m) :
  (vb [.s (tN m),.s (tN n),.b add]).run=some (0,[.s (tN (if add then m+n else m-n))]):=by
 rw[qna]
 obtain⟨N,hN⟩:∃N,N=max (tN m).length (tN n).length+1:=⟨_,rfl⟩
 have l1:(tN m).length≤N-1:=by omega
 have l2:(tN n).length≤N-1:=by omega
 have l3:N=N-1+1:=by omega
 have p1:10^(tN m).length≤10^(N-1):=Nat.pow_le_pow_right (Nat.succ_pos 9) l1
 have p2:10^(tN n).length≤10^(N-1):=Nat.pow_le_pow_right (Nat.succ_pos 9) l2
 have p3:10^N=10^(N-1)*10:=(congrArg (10^·) l3).trans (Nat.pow_succ (n:=10) (m:=N-1))
 have e0:qh .i64 (qd5 (ql (tN m)) (ql (tN n))) 1=(N:Int):=by
  unfold ql;rw[qoK,zc (by omega)];omega
 have e1:qA .i64 (N:Int) 1=(N:Int)-1:=yn (by omega)
 have e2:(0:Int)≤(N:Int)∧(N:Int)≤140737488355328:=by omega
 have wa:=qjx (tN m) N (by omega) (by omega) (by omega)
 have wb:=qjx (tN n) N (by omega) (by omega) (by omega)
 have hda:q3L (List.replicate (N-(tN m).length) 48++tN m):=q5L.2 ⟨qiF _,zE _⟩
 have hdb:q3L (List.replicate (N-(tN n).length) 48++tN n):=q5L.2 ⟨qiF _,zE _⟩
 obtain⟨t,c,h1,h2,h3,h4⟩:=qqs (n:=N) hda hdb (by simp;omega) (by simp;omega) (by omega) add
 rw[qlW,qlW,kP,kP] at h4
 have ht:t≠[]:=by intro h;subst h;simp at h3;omega
 have hb:=q9A h2 ht (by omega)
 have e3:q2n (N:Int) [.i 0]=rI (List.replicate N 0):=by rw[qfZ];rfl
 have hvm:=q4T (zE m)
 have hvn:=q4T (zE n)
 have hvt:=q4T h2
 rw[kP] at hvm hvn
 rw[h3] at hvt
 rw[p3] at h4 hvt
 have q1:=Nat.lt_of_lt_of_le hvm p1
 have q2:=Nat.lt_of_lt_of_le hvn p2
 clear hvm hvn p1 p2 p3
 have hval:val t=if add then m+n else m-n:=quP q1 q2 hvt h4 hle
 rw[hval] at hb
 simp only[STD,e0,wa,wb,e1,e2,and_self,e3,h1,qj5,hb]
theorem qrw(m n:Nat):(tN (m+n)).length≤max (tN m).length (tN n).length+1:=by
 have h1:=q4T (zE m)
 have h2:=q4T (zE n)
 rw[kP] at h1 h2
 have p1:10^(tN m).length≤10^(max (tN m).length (tN n).length):=Nat.pow_le_pow_right (by omega) (by omega)
 have p2:10^(tN n).length≤10^(max (tN m).length (tN n).length):=Nat.pow_le_pow_right (by omega) (by omega)
 exact q3O _ _ (by rw[Nat.pow_succ];omega)
theorem qls(m n:Nat):(tN (m*n)).length≤(tN m).length+(tN n).length:=by
 have h1:=q4T (zE m)
 have h2:=q4T (zE n)
 rw[kP] at h1 h2
 have h3:=qf0 m
 have h4:=qf0 n
 have:m*n<10^((tN m).length+(tN n).length):=by
  rw[Nat.pow_add]
  exact Nat.mul_lt_mul'' h1 h2
 have:=q3O ((tN m).length+(tN n).length-1) (m*n) (by rwa [show (tN m).length+(tN n).length-1+1=(tN m).length+(tN n).length by omega])
 omega
def nl(m:Int):Nat:=(tN m.natAbs).length
theorem qlZ(m:Int):0<nl m:=qf0 _
theorem qkX(m:Int):nl (-m)=nl m:=by unfold nl;rw[Int.natAbs_neg]
theorem qnf(m n:Int):nl (m+n)≤max (nl m) (nl n)+1:=by
 unfold nl
 exact Nat.le_trans (uc (Int.natAbs_add_le m n)) (qrw _ _)
theorem jv(m n:Int):nl (m*n)≤nl m+nl n:=by
 unfold nl;rw[Int.natAbs_mul];exact qls _ _
theorem qz0{m:Int}{k:Nat}(h:nl m≤k):m.natAbs<10^k:=q3U h
theorem qjc(m n:Int)(hm:nl m≤100000000-1)(hn:nl n≤100000000-1):(q1k [.s (tI m),.s (tI n)]).run=some (0,[.s (tI (m+n))]):=by
 rw[qp3]
 have hm':(tN m.natAbs).length≤100000000-1:=hm
 have hn':(tN n.natAbs).length≤100000000-1:=hn
 have lt:=qnf m n
 by_cases hb:(tN m.natAbs).length≤18∧(tN n.natAbs).length≤18
 ·have b1:m.natAbs<1000000000000000000:=Nat.lt_of_lt_of_le (q3U hb.1) (by decide)
  have b2:n.natAbs<1000000000000000000:=Nat.lt_of_lt_of_le (q3U hb.2) (by decide)
  have e1:qh .i64 m n=m+n:=zc (by omega)
  have e2:=q20 (m+n) (by omega) (by omega)
  clear b1 b2
  have hbr:=q4M m n
  rw[if_pos hb] at hbr
  simp only[STD,hbr,e1,e2]
 ·have hbr:=q4M m n
  rw[if_neg hb] at hbr
  have hP:=q7I m.natAbs n.natAbs true (by omega) (by omega) (fun h=>by cases h)
  simp only[↓reduceIte] at hP
  simp only[STD,hbr,zU,vd,qdn,decide_eq_decide,hP]
  have la:=qrw m.natAbs n.natAbs
  by_cases hs:(m<0)=(n<0)
  ·have hs':(m<0↔n<0):=by rw[hs]
   rw[if_pos hs']
   simp only[uj _ _ (show (tN (m.natAbs+n.natAbs)).length≤100000000 by omega),STD]
   have e:(if m<0 then -((m.natAbs+n.natAbs:Nat):Int) else ((m.natAbs+n.natAbs:Nat):Int))=m+n:=by
    by_cases h:m<0
    ·rw[if_pos h];have:=hs'.1 h;omega
    ·rw[if_neg h];have:¬n<0:=fun q=>h (hs'.2 q);omega
   rw[e]
  ·have hs':¬(m<0↔n<0):=fun h=>hs (propext h)
   rw[if_neg hs']
   by_cases hlt:m.natAbs<n.natAbs
   ·have hP2:=q7I n.natAbs m.natAbs false (by omega) (by omega) (fun _=>by omega)
    simp only[Bool.false_eq_true,↓reduceIte] at hP2
    have ls:(tN (n.natAbs-m.natAbs)).length≤100000000:=Nat.le_trans (uc (Nat.sub_le _ _)) (by omega)
    simp only[STD,hlt,hP2,uj _ _ ls]
    have e:(if n<0 then -((n.natAbs-m.natAbs:Nat):Int) else ((n.natAbs-m.natAbs:Nat):Int))=m+n:=by
     by_cases h:n<0
     ·rw[if_pos h];have:¬m<0:=fun q=>hs' ⟨fun _=>h,fun _=>q⟩;omega
     ·rw[if_neg h];have:m<0:=by
       rcases Decidable.em (m<0) with q|q
       ·exact q
       ·exact absurd ⟨fun x=>absurd x q,fun x=>absurd x h⟩ hs'
      omega
    rw[e]
   ·have hP2:=q7I m.natAbs n.natAbs false (by omega) (by omega) (fun _=>by omega)
    simp only[Bool.false_eq_true,↓reduceIte] at hP2
    have ls:(tN (m.natAbs-n.natAbs)).length≤100000000:=Nat.le_trans (uc (Nat.sub_le _ _)) (by omega)
    simp only[STD,hlt,hP2,uj _ _ ls]
    have e:(if m<0 then -((m.natAbs-n.natAbs:Nat):Int) else ((m.natAbs-n.natAbs:Nat):Int))=m+n:=by
     by_cases h:m<0
     ·rw[if_pos h];have:¬n<0:=fun q=>hs' ⟨fun _=>q,fun _=>h⟩;omega
     ·rw[if_neg h];have:n<0:=by
       rcases Decidable.em (n<0) with q|q
       ·exact q
       ·exact absurd ⟨fun x=>absurd x h,fun x=>absurd x q⟩ hs'
      omega
    rw[e]
theorem q7B(m n:Int)(hm:nl m≤100000000-1)(hn:nl n≤100000000-1):(wy [.s (tI m),.s (tI n)]).run=some (0,[.s (tI (m-n))]):=by
 rw[qmq]
 have ht:=qa5 n (by have:(tN n.natAbs).length≤100000000-1:=hn;omega)
 have hp:=qjc m (-n) hm (by rw[qkX];exact hn)
 rw[←Int.sub_eq_add_neg] at hp
 simp only[STD,ht,hp]
def sgn(n:Int):Int:=if n<0 then -1 else if n=0 then 0 else 1
theorem qcd(m n:Int)(hm:nl m≤100000000-1)(hn:nl n≤100000000-1):(jF [.s (tI m),.s (tI n)]).run=some (0,[.i (sgn (m-n))]):=by
 rw[qml]
 have h0:(tI (m-n)=[48])=(m-n=0):=by
  have:tI 0=[48]:=rfl
  rw[←this];exact propext ⟨fun h=>qpu h,fun h=>by rw[h]⟩
 simp only[STD,q7B m n hm hn,qS,h0,vd]
 unfold sgn
 by_cases h1:m-n=0
 ·rw[if_pos h1,if_neg (by omega),if_pos h1]
 ·rw[if_neg h1]
  by_cases h2:m-n<0
  ·rw[if_pos h2,if_pos h2]
  ·rw[if_neg h2,if_neg h2,if_neg h1]
end Go.Eng

namespace Go.Eng
def wv(l:List Int):Int:=l.foldl (fun a x=>10*a+x) 0
theorem qoG:∀(t:List Int) (a:Int),t.foldl (fun a x=>10*a+x) a=a*10^t.length+wv t
 | [],a=>by simp[wv]
 | c::t,a=>by
  have h1:=qoG t (10*a+c)
  have h2:=qoG t (10*0+c)
  have h3:wv (c::t)=t.foldl (fun a x=>10*a+x) (10*0+c):=rfl
  rw[h3,h2,List.foldl_cons,h1,List.length_cons,Int.pow_succ]
  grind
theorem qiQ(c:Int)(t:List Int):wv (c::t)=c*10^t.length+wv t:=by
 have h3:wv (c::t)=t.foldl (fun a x=>10*a+x) (10*0+c):=rfl
 rw[h3,qoG];grind
theorem qz6:wv []=0:=rfl
theorem qxf(n:Nat):wv (List.replicate n 0)=0:=by
 induction n with
 | zero=>rfl
 | succ n ih=>rw[List.replicate_succ,qiQ,ih];simp
theorem qxC:∀(l:List Int) (j:Nat) (hj:j<l.length) (y:Int),wv (l.set j y)=wv l+(y-l[j])*10^(l.length-(j+1))
 | [],j,hj,y=>by simp at hj
 | c::t,0,hj,y=>by
  rw[List.set_cons_zero,qiQ,qiQ]
  simp only[List.getElem_cons_zero,List.length_cons,Nat.add_sub_cancel,Nat.zero_add]
  grind
 | c::t,j+1,hj,y=>by
  have hj':j<t.length:=by simpa using hj
  rw[List.set_cons_succ,qiQ,qiQ,qxC t j hj' y,List.length_set]
  simp only[List.getElem_cons_succ,List.length_cons]
  rw[show t.length+1-(j+1+1)=t.length-(j+1) by omega]
  grind
theorem qy6{l:List Int}{k:Nat}(h:k<l.length):wv (l.drop k)=l[k]*10^(l.length-(k+1))+wv (l.drop (k+1)):=by
 rw[List.drop_eq_getElem_cons h,qiQ,List.length_drop]
theorem j2{l:List Int}{j:Nat}(h:j<l.length):l.getD j 0=l[j]:=by simp[List.getD_eq_getElem?_getD,h]
theorem qlA{n i:Nat}(h:i<n):(10:Int)^(n-i)=10^(n-(i+1))*10:=by
 rw[←Int.pow_succ];congr 1;omega
theorem qwj{V A Q B:Int}:V*(Q*10)*B+A*B*Q=(10*V+A)*Q*B:=by grind
theorem qym{P Q A V y:Int}:A*(10*V+y)*P*Q=A*V*(P*10)*Q+A*y*(P*Q):=by grind
theorem qok{l:List Int}{j:Nat}{y B:Int}(h:∀x,x∈l→0≤x∧x≤B)(hy:0≤y∧y≤B):∀x,x∈l.set j y→0≤x∧x≤B:=by
 intro x hx
 rcases List.mem_or_eq_of_mem_set hx with h1|h1
 ·exact h x h1
 ·rw[h1];exact hy
theorem qtG{a b:List UInt8}(ha:q3L a)(hb:q3L b){i:Nat}(hi:i<a.length)(hla:a.length≤1000000)(hlb:b.length≤1000000){cols:List Int}(hc:cols.length=a.length+b.length){C:Nat}(hC:C≤1000000000000)
  (hB:∀x,x∈cols→0≤x∧x≤81*(C:Int)) :
  ∃cols':List Int,(qg jZ [.s a,.s b,.i (i:Int),.i 0,.r (rI cols)]).run=some (0,[.s a,.s b,.i (i:Int),.r (rI cols')])∧cols'.length=a.length+b.length ∧
   (∀x,x∈cols'→0≤x∧x≤81*((C+b.length:Nat):Int))∧wv cols'=wv cols+(dv a[i]:Int)*(val b:Int)*10^(a.length-(i+1)):=by
 obtain⟨j,qs,h1,h2⟩:=vU (S:=jZ) (fun K ps=>∃(k:Nat) (cs:List Int),K+k=b.length∧ps=[.s a,.s b,.i (i:Int),.i (k:Int),.r (rI cs)]∧cs.length=a.length+b.length ∧
   (∀x,x∈cs→0≤x∧x≤81*((C+k:Nat):Int))∧wv cs=wv cols+(dv a[i]:Int)*(val (b.take k):Int)*10^(b.length-k)*10^(a.length-(i+1)))
  (fun j qs=>j=0∧∃cs:List Int,qs=[.s a,.s b,.i (i:Int),.r (rI cs)]∧cs.length=a.length+b.length ∧
   (∀x,x∈cs→0≤x∧x≤81*((C+b.length:Nat):Int))∧wv cs=wv cols+(dv a[i]:Int)*(val b:Int)*10^(a.length-(i+1))) (n:=b.length) (by omega) (fun K ps hK ⟨k,cs,hkK,hps,hlen,hbd,hw⟩=>by
  subst hps
  rw[qgM]
  cases K with
  | zero=>
   right
   obtain rfl:k=b.length:=by omega
   have:¬(b.length:Int)<ql b:=by unfold ql;omega
   refine⟨0,[.s a,.s b,.i (i:Int),.r (rI cs)],?_,rfl,cs,rfl,hlen,hbd,?_⟩
   ·simp only[STD,this]
   ·rw[hw,List.take_length,Nat.sub_self];grind
  | succ K=>
   left
   have hk:k<b.length:=by omega
   have g1:(k:Int)<ql b:=by unfold ql;omega
   have g2:(i:Int)<ql a:=by unfold ql;omega
   have e1:qh .i64 (qh .i64 (i:Int) (k:Int)) 1=((i+k+1:Nat):Int):=by
    rw[zc (x:=(i:Int)) (by omega),zc (by omega)];omega
   have hj:i+k+1<cs.length:=by omega
   have g3:((i+k+1:Nat):Int)<qt (rI cs):=by rw[qhL];omega
   obtain⟨da,la⟩:=qs2 ha hi
   obtain⟨db,lb⟩:=qs2 hb hk
   have hx:=hbd _ (List.getElem_mem hj)
   have hmul:dv a[i]*dv b[k]≤9*9:=Nat.mul_le_mul (by omega) (by omega)
   have e2:uM .i64 (dv a[i]:Int) (dv b[k]:Int)=((dv a[i]*dv b[k]:Nat):Int):=by
    rw[q7T (by rw[←Int.natCast_mul];omega)];simp
   have e3:qh .i64 cs[i+k+1] ((dv a[i]*dv b[k]:Nat):Int)=cs[i+k+1]+((dv a[i]*dv b[k]:Nat):Int):=zc (by omega)
   have e4:=kZ hk (by omega)
   refine⟨K,[.s a,.s b,.i (i:Int),.i ((k+1:Nat):Int),.r (rI (cs.set (i+k+1) (cs[i+k+1]+((dv a[i]*dv b[k]:Nat):Int))))],by omega,?_,k+1,_,by omega,rfl,by simpa using hlen,?_,?_⟩
   ·simp only[STD,g1,g2,js,and_self,e1,g3,da,db,e2,qxN,Int.toNat_natCast,j2 hj,e3,e4,qpT]
   ·refine qok (fun x hx=>?_) ?_
    ·have:=hbd x hx;omega
    ·omega
   ·rw[qxC _ _ hj,hw,q7h hk,hlen]
    have p1:=qlA hk
    have p2:(10:Int)^(a.length+b.length-(i+k+1+1))=10^(b.length-(k+1))*10^(a.length-(i+1)):=by
     rw[←Int.pow_add];congr 1;omega
    rw[p1,p2]
    generalize (10:Int)^(b.length-(k+1))=P
    generalize (10:Int)^(a.length-(i+1))=Q
    simp only[Int.natCast_add,Int.natCast_mul]
    generalize (dv a[i]:Int)=A
    generalize (dv b[k]:Int)=y
    generalize (val (b.take k):Int)=V
    generalize cs[i+k+1]=c
    have:=qym (P:=P) (Q:=Q) (A:=A) (V:=V) (y:=y)
    grind) (ps:=[.s a,.s b,.i (i:Int),.i 0,.r (rI cols)]) ⟨0,cols,by omega,rfl,hc,by simpa using hB,by simp[qc3]⟩
 obtain⟨rfl,cs,rfl,h3,h4,h5⟩:=h2
 exact⟨cs,h1,h3,h4,h5⟩
theorem qu4{a b:List UInt8}(ha:q3L a)(hb:q3L b)(hla:a.length≤1000000)(hlb:b.length≤1000000) :
  ∃cols:List Int,(qg jV [.s a,.s b,.i 0,.r (rI (List.replicate (a.length+b.length) 0))]).run=some (0,[.r (rI cols)])∧cols.length=a.length+b.length ∧
   (∀x,x∈cols→0≤x∧x≤81000000000000)∧wv cols=(val a:Int)*(val b:Int):=by
 have hsq:∀i,i≤a.length→i*b.length≤1000000000000:=fun i hi=>by
  have:=Nat.mul_le_mul (show i≤1000000 by omega) hlb;omega
 obtain⟨j,qs,h1,h2⟩:=vU (S:=jV) (fun K ps=>∃(i:Nat) (cs:List Int),K+i=a.length∧ps=[.s a,.s b,.i (i:Int),.r (rI cs)]∧cs.length=a.length+b.length ∧
   (∀x,x∈cs→0≤x∧x≤81*((i*b.length:Nat):Int))∧wv cs=(val (a.take i):Int)*10^(a.length-i)*(val b:Int))
  (fun j qs=>j=0∧∃cs:List Int,qs=[.r (rI cs)]∧cs.length=a.length+b.length∧(∀x,x∈cs→0≤x∧x≤81000000000000)∧wv cs=(val a:Int)*(val b:Int)) (n:=a.length) (by omega) (fun K ps hK ⟨i,cs,hiK,hps,hlen,hbd,hw⟩=>by
  subst hps
  rw[qhb]
  have hs:=hsq i (by omega)
  cases K with
  | zero=>
   right
   obtain rfl:i=a.length:=by omega
   have:¬(a.length:Int)<ql a:=by unfold ql;omega
   refine⟨0,[.r (rI cs)],?_,rfl,cs,rfl,hlen,fun x hx=>?_,?_⟩
   ·simp only[STD,this]
   ·have:=hbd x hx;omega
   ·rw[hw,List.take_length,Nat.sub_self];grind
  | succ K=>
   left
   have hi:i<a.length:=by omega
   have g1:(i:Int)<ql a:=by unfold ql;omega
   obtain⟨cs',q1,q2,q3,q4⟩:=qtG ha hb hi hla hlb hlen (C:=i*b.length) hs hbd
   have e4:=kZ hi (by omega)
   refine⟨K,[.s a,.s b,.i ((i+1:Nat):Int),.r (rI cs')],by omega,?_,i+1,cs',by omega,rfl,q2,?_,?_⟩
   ·simp only[STD,g1,q1,e4]
   ·rw[Nat.add_mul,Nat.one_mul];exact q3
   ·rw[q4,hw,q7h hi]
    rw[qlA hi,Int.natCast_add,Int.natCast_mul]
    exact qwj) (ps:=[.s a,.s b,.i 0,.r (rI (List.replicate (a.length+b.length) 0))]) ⟨0,List.replicate (a.length+b.length) 0,by omega,rfl,by simp,fun x hx=>by rw[(List.mem_replicate.1 hx).2];omega,by rw[qxf];simp[qc3]⟩
 obtain⟨rfl,cs,rfl,h3,h4,h5⟩:=h2
 exact⟨cs,h1,h3,h4,h5⟩
theorem qts{cols:List Int}{N:Nat}(hl:cols.length=N)(hN:N≤2000000)(hB:∀x,x∈cols→0≤x∧x≤81000000000000) :
  ∃(t:List UInt8) (c:Nat),(qg jj [.i 0,.i ((N:Int)-1),.r (rI cols),.r (rI (List.replicate N 0))]).run=some (0,[.r (rI (t.map fun c=>(c.toNat:Int)))])∧q3L t∧t.length=N∧wv cols=(val t:Int)+(c:Int)*10^N:=by
 obtain⟨j,qs,h1,h2⟩:=vU (S:=jj) (fun K ps=>∃(t:List UInt8) (c:Nat),ps=[.i (c:Int),.i ((K:Int)-1),.r (rI cols),.r (rI (List.replicate K 0++t.map fun c=>(c.toNat:Int)))]∧c≤81000000000000∧q3L t∧K+t.length=N ∧
   wv (cols.drop K)=(val t:Int)+(c:Int)*10^(N-K))
  (fun j qs=>j=0∧∃(t:List UInt8) (c:Nat),qs=[.r (rI (t.map fun c=>(c.toNat:Int)))]∧q3L t∧t.length=N∧wv cols=(val t:Int)+(c:Int)*10^N) (n:=N) (by omega) (fun K ps hK ⟨t,c,hps,hc,hdt,hlt,hrel⟩=>by
  subst hps
  rw[qgi]
  cases K with
  | zero=>
   right
   have:¬(0:Int)≤((0:Nat):Int)-1:=by omega
   refine⟨0,[.r (rI (t.map fun c=>(c.toNat:Int)))],?_,rfl,t,c,rfl,hdt,by omega,by simpa using hrel⟩
   simp only[STD,this,List.replicate_zero,List.nil_append]
  | succ K=>
   left
   have e0:((K+1:Nat):Int)-1=(K:Int):=by omega
   rw[e0]
   have hk:K<cols.length:=by omega
   obtain⟨x,hx⟩:∃x:Nat,cols[K]=(x:Int)∧x≤81000000000000:=by
    have:=hB _ (List.getElem_mem hk)
    exact⟨cols[K].toNat,by omega,by omega⟩
   have e1:qh .i64 (c:Int) (x:Int)=((c+x:Nat):Int):=by rw[zc (by omega)];omega
   have e2:jG .i64 ((c+x:Nat):Int) 10=(((c+x)/10:Nat):Int):=qs9 (b:=10) (by omega)
   have e3:q4Q ((c+x:Nat):Int) 10=(((c+x)%10:Nat):Int):=qkf _ 10
   have e4:vu .u8 (qh .i64 48 (((c+x)%10:Nat):Int))=((dch ((c+x)%10)).toNat:Int):=by
    rw[zc (by omega),qnk (by omega),q1r (by omega)];omega
   have h3:(K:Int)<qt (rI cols):=by rw[qhL];omega
   have h5:(K:Int)<qt (rI (List.replicate (K+1) 0++t.map fun c=>(c.toNat:Int))):=by rw[qhL];simp;omega
   have h6:(List.replicate (K+1) (0:Int)++t.map fun c=>(c.toNat:Int)).set K ((dch ((c+x)%10)).toNat:Int)=List.replicate K 0++(dch ((c+x)%10)::t).map fun c=>(c.toNat:Int):=by
    rw[List.replicate_succ',List.append_assoc,List.set_append_right _ _ (by simp),List.length_replicate,Nat.sub_self];rfl
   have h7:qA .i64 (K:Int) 1=(K:Int)-1:=yn (by omega)
   refine⟨K,[.i (((c+x)/10:Nat):Int),.i ((K:Int)-1),.r (rI cols),.r (rI (List.replicate K 0++(dch ((c+x)%10)::t).map fun c=>(c.toNat:Int)))],by omega,?_,_,_,rfl,by omega,kn.2 ⟨by rw[q1r (by omega)];omega,hdt⟩,by simp;omega,?_⟩
   ·simp only[STD,js,h3,h5,and_self,qxN,Int.toNat_natCast,j2 hk,hx.1,e1,e2,e3,e4,qpT,h6,h7]
   ·rw[qy6 hk,hrel,q4o,hx.1,hl,qjg (by omega),show t.length=N-(K+1) by omega]
    rw[qlA (show K<N by omega)]
    have e:((c+x:Nat):Int)=10*(((c+x)/10:Nat):Int)+(((c+x)%10:Nat):Int):=by omega
    simp only[Int.natCast_add,Int.natCast_mul,Int.natCast_pow] at e ⊢
    generalize hP:(10:Int)^(N-(K+1))=P at *
    generalize (((c+x)/10:Nat):Int)=q at *
    generalize (((c+x)%10:Nat):Int)=r at *
    have:(c:Int)=10*q+r-x:=by omega
    rw[this];grind) (ps:=[.i 0,.i ((N:Int)-1),.r (rI cols),.r (rI (List.replicate N 0))]) ⟨[],0,by simp,by omega,qhh,by simp,by
    rw[List.drop_eq_nil_of_le (by omega)];simp[qc3,qz6]⟩
 obtain⟨rfl,t,c,rfl,h3,h4,h5⟩:=h2
 exact⟨t,c,h1,h3,h4,h5⟩
theorem qky(m n:Nat)(hm:(tN m).length≤1000000)(hn:(tN n).length≤1000000):(kg [.s (tN m),.s (tN n)]).run=some (0,[.s (tN (m*n))]):=by
 rw[qjU]
 obtain⟨cols,c1,c2,c3,c4⟩:=qu4 (zE m) (zE n) hm hn
 obtain⟨N,hN⟩:∃N,N=(tN m).length+(tN n).length:=⟨_,rfl⟩
 have hp:=qf0 m
 rw[←hN] at c1 c2
 obtain⟨t,c,t1,t2,t3,t4⟩:=qts c2 (by omega) c3
 have ht:t≠[]:=by intro h;subst h;simp at t3;omega
 have hb:=q9A t2 ht (by omega)
 have e0:qh .i64 (ql (tN m)) (ql (tN n))=(N:Int):=by unfold ql;rw[zc (by omega)];omega
 have e1:(0:Int)≤(N:Int)∧(N:Int)≤17592186044416:=by omega
 have e1':(0:Int)≤(N:Int)∧(N:Int)≤140737488355328:=by omega
 have e2:q2n (N:Int) [.i 0]=rI (List.replicate N 0):=by rw[qfZ];rfl
 have e3:qt (rI cols)=(N:Int):=by rw[qhL,c2]
 have e4:qA .i64 (N:Int) 1=(N:Int)-1:=yn (by omega)
 have hval:val t=m*n:=by
  have v1:=q4T (zE m)
  have v2:=q4T (zE n)
  have v3:=q4T t2
  rw[t3] at v3
  rw[c4,kP,kP] at t4
  rw[kP] at v1 v2
  have v4:m*n<10^N:=by rw[hN,Nat.pow_add];exact Nat.mul_lt_mul'' v1 v2
  have t5:m*n=val t+c*10^N:=by
   have:((m*n:Nat):Int)=((val t+c*10^N:Nat):Int):=by simpa using t4
   omega
  clear t4 c4 v1 v2
  generalize 10^N=P at *
  rcases Nat.eq_zero_or_pos c with h|h
  ·subst h;omega
  ·have:=Nat.mul_le_mul_right P h;omega
 rw[hval] at hb
 simp only[STD,e0,e1,e1',and_self,e2,c1,e3,e4,t1,qj5,hb]
theorem qhi(m n:Int)(hm:nl m≤1000000)(hn:nl n≤1000000):(zL [.s (tI m),.s (tI n)]).run=some (0,[.s (tI (m*n))]):=by
 rw[qmu]
 have hm':(tN m.natAbs).length≤1000000:=hm
 have hn':(tN n.natAbs).length≤1000000:=hn
 have hbr:=q4M m n
 have hP:=qky m.natAbs n.natAbs hm' hn'
 have lm:=qls m.natAbs n.natAbs
 have hS:=fun b=>uj (m.natAbs*n.natAbs) b (by omega)
 have tm:=qpX m
 have tn:=qpX n
 have e0:qh .i64 (ql (tI m)) (ql (tI n))=(((tI m).length+(tI n).length:Nat):Int):=by unfold ql;rw[zc (by omega)];omega
 have sg:(if (¬((m<0)=(n<0))) then -((m.natAbs*n.natAbs:Nat):Int) else ((m.natAbs*n.natAbs:Nat):Int))=m*n:=by
  by_cases h1:m<0<;>by_cases h2:n<0
  ·simp only[h1,h2,not_true_eq_false,if_false]
   rw[Int.natCast_mul,show (m.natAbs:Int)=-m by omega,show (n.natAbs:Int)=-n by omega];grind
  ·simp only[h1,h2]
   rw[if_pos (by simp),Int.natCast_mul,show (m.natAbs:Int)=-m by omega,show (n.natAbs:Int)=n by omega];grind
  ·simp only[h1,h2]
   rw[if_pos (by simp),Int.natCast_mul,show (m.natAbs:Int)=m by omega,show (n.natAbs:Int)=-n by omega];grind
  ·simp only[h1,h2,not_true_eq_false,if_false]
   rw[Int.natCast_mul,show (m.natAbs:Int)=m by omega,show (n.natAbs:Int)=n by omega]
 by_cases hb:(tN m.natAbs).length≤18∧(tN n.natAbs).length≤18
 ·rw[if_pos hb] at hbr
  by_cases h18:(tI m).length+(tI n).length≤18
  ·have h18':(((tI m).length+(tI n).length:Nat):Int)≤18:=by omega
   have lmn:(tN (m*n).natAbs).length≤18:=by
    rw[Int.natAbs_mul]
    have h3:∀q:Int,(tN q.natAbs).length≤(tI q).length:=fun q=>by unfold tI;split<;>simp
    have:=h3 m;have:=h3 n;omega
   have b1:(m*n).natAbs<1000000000000000000:=Nat.lt_of_lt_of_le (q3U lmn) (by decide)
   have e1:uM .i64 m n=m*n:=q7T (by omega)
   have e2:=q20 (m*n) (by omega) (by omega)
   clear b1
   simp only[STD,hbr,e0,h18',e1,e2]
  ·have h18':¬(((tI m).length+(tI n).length:Nat):Int)≤18:=by omega
   simp only[STD,hbr,e0,h18',zU,hP,vd,hS,decide_eq_decide]
   rw[←sg];simp only[eq_iff_iff]
 ·rw[if_neg hb] at hbr
  simp only[STD,hbr,zU,hP,vd,hS,decide_eq_decide]
  rw[←sg];simp only[eq_iff_iff]
end Go.Eng

namespace Go.Eng
theorem qyV{x:Int}(h:0≤x∧x≤254):qh .u8 x 1=x+1:=by
 unfold qh IntKind.wrap
 simp[IntKind.signed,IntKind.bits];omega
theorem qrH(a q:List UInt8)(i:Int){b x0:Nat}(hb:0<b)(hx:x0<10*b)(lb:(tN b).length≤1000000)(lx:(tN x0).length≤1000002) :
  (qg je [.s a,.s (tN b),.s q,.s (tN x0),.i i,.i 48]).run=some (0,[.s a,.s (tN b),.s q,.s (tN (x0%b)),.i i,.i (48+((x0/b:Nat):Int))]):=by
 obtain⟨j,qs,h1,h2⟩:=vU (S:=je) (fun k ps=>∃x c:Nat,ps=[.s a,.s (tN b),.s q,.s (tN x),.i i,.i (48+(c:Int))]∧x+c*b=x0∧c+k=10∧c≤9)
  (fun j qs=>j=0∧qs=[.s a,.s (tN b),.s q,.s (tN (x0%b)),.i i,.i (48+((x0/b:Nat):Int))]) (n:=10) (by omega) (fun k ps hk ⟨x,c,hps,he,hck,hc⟩=>by
  subst hps
  rw[qge]
  have hxl:x≤x0:=by rw[←he];exact Nat.le_add_right _ _
  have hP:=q7I x b false (by have:=uc hxl;omega) (by omega)
  by_cases hlt:x<b
  ·right
   refine⟨0,[.s a,.s (tN b),.s q,.s (tN x),.i i,.i (48+(c:Int))],?_,rfl,?_⟩
   ·simp only[STD,qdn,hlt,decide_true]
   ·have e1:x0/b=c:=by rw[←he,Nat.add_mul_div_right _ _ hb,Nat.div_eq_of_lt hlt,Nat.zero_add]
    have e2:x0%b=x:=by rw[←he,Nat.add_mul_mod_self_right,Nat.mod_eq_of_lt hlt]
    rw[e1,e2]
  ·left
   have hge:b≤x:=by omega
   have hP:=hP (fun _=>hge)
   simp only[Bool.false_eq_true,↓reduceIte] at hP
   have hc9:c+1<10:=by
    apply Nat.lt_of_mul_lt_mul_right (a:=b)
    have:(c+1)*b=c*b+b:=Nat.succ_mul c b
    omega
   refine⟨k-1,[.s a,.s (tN b),.s q,.s (tN (x-b)),.i i,.i (48+((c+1:Nat):Int))],by omega,?_,x-b,c+1,rfl,?_,by omega,by omega⟩
   ·simp only[STD,qdn,hlt,decide_false,hP,qyV (show (0:Int)≤48+(c:Int)∧48+(c:Int)≤254 by omega)]
    rw[show (48+(c:Int)+1)=48+((c+1:Nat):Int) by omega]
   ·have:(c+1)*b=c*b+b:=Nat.succ_mul c b
    omega) (ps:=[.s a,.s (tN b),.s q,.s (tN x0),.i i,.i 48]) ⟨x0,0,by simp,by simp,by omega,by omega⟩
 obtain⟨rfl,rfl⟩:=h2
 exact h1
theorem qwI{s:List UInt8}{i:Nat}(h:i<s.length):q9J s (i:Int) (((i+1:Nat):Int))=[s[i]]:=by
 unfold q9J
 simp only[Int.toNat_natCast]
 rw[List.take_succ_eq_append_getElem h,List.drop_append_of_le_length (by simp;omega)]
 rw[List.drop_of_length_le (by simp;omega)];rfl
theorem qmc{m n:Nat}(hn:0<n)(lm:(tN m).length≤1000000)(ln:(tN n).length≤1000000) :
  (q1e [.s (tN m),.s (tN n)]).run=some (0,[.s (tN (m/n)),.s (tN (m%n))]):=by
 rw[qjM]
 have hdm:=zE m
 obtain⟨j,qs,h1,rfl,q,h2,h3,h4,h5⟩:=vU (S:=kH) (fun k ps=>∃(i r:Nat) (q:List UInt8),ps=[.s (tN m),.s (tN n),.s q,.s (tN r),.i (i:Int)]∧i+k=(tN m).length∧q.length=i∧q3L q∧val q*n+r=val ((tN m).take i)∧r<n)
  (fun j qs=>j=0∧∃q:List UInt8,qs=[.s q,.s (tN (m%n))]∧q.length=(tN m).length∧q3L q∧val q=m/n) (n:=(tN m).length) (by omega) (fun k ps hk ⟨i,r,q,hps,hik,hql,hdq,hv,hr⟩=>by
  subst hps
  rw[qgI]
  by_cases hi:i<(tN m).length
  ·left
   have hc:=qel hdm hi
   have hw:qh .i64 (i:Int) 1=((i+1:Nat):Int):=by rw[zc (by omega)];omega
   have hlr:(tN r).length≤(tN n).length:=uc (by omega)
   have hd10:=qtV hc
   have hB:=q9A (s:=tN r++[(tN m)[i]]) (q5L.2 ⟨zE r,fun c hcc=>by simp at hcc;subst hcc;exact hc⟩) (by simp) (by simp;omega)
   rw[qgD,kP] at hB
   have lx:(tN (10*r+dv (tN m)[i])).length≤1000002:=by
    have h10:10*r+dv (tN m)[i]≤10*n:=by omega
    have e10:(tN (10*n)).length≤(tN 10).length+(tN n).length:=qls 10 n
    have e11:(tN 10).length=2:=by decide
    have:=uc h10
    omega
   have hI:=qrH (tN m) q (i:Int) hn (x0:=10*r+dv (tN m)[i]) (by omega) ln lx
   have hq10:(10*r+dv (tN m)[i])/n<10:=by
    rw[Nat.div_lt_iff_lt_mul hn];omega
   have hd1:(i:Int)<ql (tN m):=by unfold ql;omega
   have hd2:((i+1:Nat):Int)≤ql (tN m):=by unfold ql;omega
   have hrs:qeC [[.i (48+(((10*r+dv (tN m)[i])/n:Nat):Int))]]=[dch ((10*r+dv (tN m)[i])/n)]:=by
    simp only[qeC,List.map_cons,List.map_nil,List.getD_cons_zero,U.toI,dch]
    congr 2
   have hl1:ql (tN r)+ql [(tN m)[i]]≤140737488355328:=by unfold ql;simp;omega
   have hl2:ql q+ql [dch ((10*r+dv (tN m)[i])/n)]≤140737488355328:=by unfold ql;simp;omega
   refine⟨k-1,[.s (tN m),.s (tN n),.s (q++[dch ((10*r+dv (tN m)[i])/n)]),.s (tN ((10*r+dv (tN m)[i])%n)),.i ((i+1:Nat):Int)],by omega,?_,i+1,_,_,rfl,by omega,by simp[hql],?_,?_,Nat.mod_lt _ hn⟩
   ·simp only[STD,hw,hd1,hd2,qwI hi,hl1,qaw,hB,hI,hrs,hl2,show (0:Int)≤(i:Int) by omega,show (0:Int)≤((i+1:Nat):Int) by omega,show (i:Int)≤((i+1:Nat):Int) by omega,and_self]
   ·exact q5L.2 ⟨hdq,qp7 hq10⟩
   ·rw[qgD,qjg hq10,q7h hi,←hv]
    have hdm:=Nat.div_add_mod (10*r+dv (tN m)[i]) n
    generalize (10*r+dv (tN m)[i])/n=c at *
    generalize (10*r+dv (tN m)[i])%n=e at *
    have e1:(10*val q+c)*n=10*(val q*n)+n*c:=by rw[Nat.add_mul,Nat.mul_assoc,Nat.mul_comm c n]
    omega
  ·right
   have hie:i=(tN m).length:=by omega
   have hd1:¬((i:Int)<ql (tN m)):=by unfold ql;omega
   rw[hie,List.take_length,kP] at hv
   have e1:m/n=val q:=by rw[←hv,Nat.add_comm,Nat.add_mul_div_right _ _ hn,Nat.div_eq_of_lt hr,Nat.zero_add]
   have e2:m%n=r:=by rw[←hv,Nat.add_comm,Nat.add_mul_mod_self_right,Nat.mod_eq_of_lt hr]
   refine⟨0,[.s q,.s (tN r)],?_,rfl,q,by rw[e2],by omega,hdq,e1.symm⟩
   simp only[STD,hd1]) (ps:=[.s (tN m),.s (tN n),.s [],.s [48],.i 0]) ⟨0,0,[],rfl,by omega,rfl,qhh,by simp[qc3],hn⟩
 subst h2
 have hB:=q9A (s:=q) h4 (by intro h;subst h;have:=qf0 m;simp at h3;omega) (by omega)
 rw[h5] at hB
 simp only[STD,h1,hB]
def fq(m n:Int):Int:=if 0<n then m/n else (-m)/(-n)
theorem qix{m n q:Int}(h:(0<n∧q*n≤m∧m<q*n+n)∨(n<0∧q*n+n<m∧m≤q*n)):fq m n=q:=by
 unfold fq
 rcases h with⟨h0,h1,h2⟩|⟨h0,h1,h2⟩
 ·rw[if_pos h0]
  exact((Int.ediv_emod_unique (r:=m-q*n) h0).2 ⟨by rw[Int.mul_comm];omega,by omega,by omega⟩).1
 ·rw[if_neg (by omega)]
  have e:-n*q=-(q*n):=by rw[Int.neg_mul,Int.mul_comm]
  exact((Int.ediv_emod_unique (r:=q*n-m) (show 0 < -n by omega)).2 ⟨by omega,by omega,by omega⟩).1
theorem qkh{n q:Int}(h:n≠0):fq (q*n) n=q:=by
 apply qix
 rcases Int.lt_or_lt_of_ne h with h|h
 ·exact .inr ⟨h,by omega,by omega⟩
 ·exact .inl ⟨h,by omega,by omega⟩
theorem qA0(m:Int){n:Int}(_:n≠0):(fq m n).natAbs≤m.natAbs+1:=by
 unfold fq
 split
 ·have:=Int.natAbs_ediv_le_natAbs m n;omega
 ·have:=Int.natAbs_ediv_le_natAbs (-m) (-n);omega
theorem qiO(m:Int){n:Int}(hn:n≠0):n*m.tdiv n+q4Q m n=m∧(q4Q m n).natAbs<n.natAbs∧(0≤m→0≤q4Q m n)∧(m≤0→q4Q m n≤0):=by
 unfold q4Q
 refine⟨Int.mul_tdiv_add_tmod m n,?_,fun h=>Int.tmod_nonneg n h,fun h=>?_⟩
 ·rw[Int.natAbs_tmod]
  exact Nat.mod_lt _ (by omega)
 ·have:=Int.tmod_nonneg n (show 0≤-m by omega)
  rw[Int.neg_tmod] at this
  omega
end Go.Eng

namespace Go.Eng
theorem qwq{m:Int}(h:(tN m.natAbs).length≤18):m.natAbs<1000000000000000000:=Nat.lt_of_lt_of_le (q3U h) (by decide)
theorem qeb{n t:Int}(hn:n≠0)(h:-9223372036854775808≤t∧t≤9223372036854775807):jG .i64 (n*t) n=t:=by
 unfold jG
 rw[Int.mul_tdiv_cancel_left _ hn]
 unfold IntKind.wrap
 simp[IntKind.signed,IntKind.bits];omega
theorem qyk(m:Int)(n:Int):(m.tdiv n).natAbs≤m.natAbs:=by
 rw[Int.natAbs_tdiv];exact Nat.div_le_self _ _
theorem qwp{m n:Int}(hn:n≠0) :
  (q4Q m n≠0∧¬((q4Q m n<0)=(n<0))→fq m n=m.tdiv n-1∧m-fq m n*n=q4Q m n+n)∧(¬(q4Q m n≠0∧¬((q4Q m n<0)=(n<0)))→fq m n=m.tdiv n∧m-fq m n*n=q4Q m n):=by
 obtain⟨h1,h2,h3,h4⟩:=qiO m hn
 generalize m.tdiv n=t at *
 generalize q4Q m n=r at *
 have e:n*t=t*n:=Int.mul_comm _ _
 have e2:(t-1)*n=t*n-n:=by rw[Int.sub_mul,Int.one_mul]
 constructor
 ·intro⟨c1,c2⟩
  have c3:¬(r<0↔n<0):=fun h=>c2 (propext h)
  have:fq m n=t-1:=by
   apply qix
   rw[e2]
   rcases Int.lt_or_lt_of_ne hn with h|h
   ·have:¬r<0:=fun q=>c3 ⟨fun _=>h,fun _=>q⟩
    exact .inr ⟨h,by omega,by omega⟩
   ·have:r<0:=by
     rcases Decidable.em (r<0) with q|q
     ·exact q
     ·exact absurd ⟨fun x=>by omega,fun x=>by omega⟩ c3
    exact .inl ⟨h,by omega,by omega⟩
  rw[this,e2]
  exact⟨rfl,by omega⟩
 ·intro c
  have c':r=0∨(r<0↔n<0):=by
   rcases Decidable.em (r=0) with q|q
   ·exact .inl q
   ·right
    rcases Decidable.em (r<0↔n<0) with q2|q2
    ·exact q2
    ·exact absurd ⟨q,fun h=>q2 (by rw[h])⟩ c
  have:fq m n=t:=by
   apply qix
   rcases Int.lt_or_lt_of_ne hn with h|h
   ·rcases c' with q|q
    ·exact .inr ⟨h,by omega,by omega⟩
    ·have:=q.2 h;exact .inr ⟨h,by omega,by omega⟩
   ·rcases c' with q|q
    ·exact .inl ⟨h,by omega,by omega⟩
    ·have:¬r<0:=fun x=>by have:=q.1 x;omega
     exact .inl ⟨h,by omega,by omega⟩
  rw[this]
  exact⟨rfl,by omega⟩
theorem qyQ{m n:Int}(hn:n≠0) :
  (m.natAbs%n.natAbs≠0∧¬((m<0)=(n<0))→fq m n=-((m.natAbs/n.natAbs:Nat):Int)-1) ∧
  (¬(m.natAbs%n.natAbs≠0∧¬((m<0)=(n<0)))→fq m n=if ¬((m<0)=(n<0)) then -((m.natAbs/n.natAbs:Nat):Int) else ((m.natAbs/n.natAbs:Nat):Int)):=by
 have hd:=Nat.div_add_mod m.natAbs n.natAbs
 have hl:=Nat.mod_lt m.natAbs (show 0<n.natAbs by omega)
 generalize m.natAbs/n.natAbs=q at *
 generalize m.natAbs%n.natAbs=r at *
 have hq:((n.natAbs*q:Nat):Int)=(n.natAbs:Int)*(q:Int):=by simp
 have e1:n<0→(n.natAbs:Int)*(q:Int)=-((q:Int)*n):=fun h=>by rw[show (n.natAbs:Int)=-n by omega,Int.neg_mul,Int.mul_comm]
 have e2:0<n→(n.natAbs:Int)*(q:Int)=(q:Int)*n:=fun h=>by rw[show (n.natAbs:Int)=n by omega,Int.mul_comm]
 have e3:(-(q:Int)-1)*n=-((q:Int)*n)-n:=by rw[Int.sub_mul,Int.neg_mul,Int.one_mul]
 have e4:(-(q:Int))*n=-((q:Int)*n):=Int.neg_mul _ _
 constructor
 ·intro⟨c1,c2⟩
  have c3:¬(m<0↔n<0):=fun h=>c2 (propext h)
  apply qix
  rw[e3]
  rcases Int.lt_or_lt_of_ne hn with h|h
  ·have:=e1 h
   have:¬m<0:=fun q=>c3 ⟨fun _=>h,fun _=>q⟩
   exact .inr ⟨h,by omega,by omega⟩
  ·have:=e2 h
   have:m<0:=by
    rcases Decidable.em (m<0) with q|q
    ·exact q
    ·exact absurd ⟨fun x=>by omega,fun x=>by omega⟩ c3
   exact .inl ⟨h,by omega,by omega⟩
 ·intro c
  by_cases c2:(m<0)=(n<0)
  ·rw[if_neg (by simpa using c2)]
   have c3:m<0↔n<0:=by rw[c2]
   apply qix
   rcases Int.lt_or_lt_of_ne hn with h|h
   ·have:=e1 h
    have:=c3.2 h
    exact .inr ⟨h,by omega,by omega⟩
   ·have:=e2 h
    have:¬m<0:=fun x=>by have:=c3.1 x;omega
    exact .inl ⟨h,by omega,by omega⟩
  ·rw[if_pos c2]
   have hr:r=0:=by
    rcases Nat.eq_zero_or_pos r with h|h
    ·exact h
    ·exact absurd ⟨by omega,c2⟩ c
   have c3:¬(m<0↔n<0):=fun h=>c2 (propext h)
   apply qix
   rw[e4]
   rcases Int.lt_or_lt_of_ne hn with h|h
   ·have:=e1 h
    have:¬m<0:=fun q=>c3 ⟨fun _=>h,fun _=>q⟩
    exact .inr ⟨h,by omega,by omega⟩
   ·have:=e2 h
    have:m≤0:=by
     rcases Decidable.em (m<0) with q|q
     ·omega
     ·exact absurd ⟨fun x=>by omega,fun x=>by omega⟩ c3
    exact .inl ⟨h,by omega,by omega⟩
theorem qur:tI 1=[49]:=rfl
theorem q3p(n:Nat):(tN n=[48])=(n=0):=by
 rw[←qry];exact propext ⟨fun h=>qno h,fun h=>by rw[h]⟩
theorem qwC(m:Int){n:Int}(hn:n≠0):nl (fq m n)≤nl m+2:=by
 have h:=qA0 m hn
 have h2:=uc h
 have h3:=qrw m.natAbs 1
 have h4:(tN 1).length=1:=rfl
 have:=qf0 m.natAbs
 unfold nl
 omega
theorem q2P(m n:Int)(hn0:n≠0)(hm:nl m≤400000)(hn:nl n≤400000):(zF [.s (tI m),.s (tI n)]).run=some (0,[.s (tI (fq m n)),.s (tI (m-fq m n*n))]):=by
 rw[qkq]
 have hbr:=q4M m n
 by_cases hb:(tN m.natAbs).length≤18∧(tN n.natAbs).length≤18
 ·rw[if_pos hb] at hbr
  have b1:=qwq hb.1
  have b2:=qwq hb.2
  obtain⟨h1,h2,h3,h4⟩:=qiO m hn0
  obtain⟨g1,g2⟩:=qwp (m:=m) hn0
  have ht:=qyk m n
  by_cases c0:q4Q m n=0
  ·obtain⟨e1,e2⟩:=g2 (fun h=>h.1 c0)
   rw[e2,e1]
   have w1:qA .i64 m (q4Q m n)=n*m.tdiv n:=by rw[yn (by omega)];omega
   have w2:=qeb (t:=m.tdiv n) hn0 (by omega)
   have o1:=q20 (m.tdiv n) (by omega) (by omega)
   have o2:=q20 (q4Q m n) (by omega) (by omega)
   simp only[STD,hbr,hn0,c0] at w1 o2 ⊢
   simp only[STD,w1,w2,o1,o2]
  ·by_cases c1:(q4Q m n<0)=(n<0)
   ·obtain⟨e1,e2⟩:=g2 (fun h=>h.2 c1)
    rw[e2,e1]
    have w1:qA .i64 m (q4Q m n)=n*m.tdiv n:=by rw[yn (by omega)];omega
    have w2:=qeb (t:=m.tdiv n) hn0 (by omega)
    have o1:=q20 (m.tdiv n) (by omega) (by omega)
    have o2:=q20 (q4Q m n) (by omega) (by omega)
    have hbq:(ilt (q4Q m n) 0=ilt n 0)=True:=by
     simp only[ilt,decide_eq_decide,eq_iff_iff,iff_true]
     rw[c1]
    simp only[STD,hbr,hn0,c0,hbq,w1,w2,o1,o2]
   ·obtain⟨e1,e2⟩:=g1 ⟨c0,c1⟩
    rw[e2,e1]
    have w0:qh .i64 (q4Q m n) n=q4Q m n+n:=zc (by omega)
    have e3:n*(m.tdiv n-1)=n*m.tdiv n-n:=by rw[Int.mul_sub,Int.mul_one]
    have w1:qA .i64 m (q4Q m n+n)=n*(m.tdiv n-1):=by rw[yn (by omega)];omega
    have w2:=qeb (t:=m.tdiv n-1) hn0 (by omega)
    have o1:=q20 (m.tdiv n-1) (by omega) (by omega)
    have o2:=q20 (q4Q m n+n) (by omega) (by omega)
    have hbq:(ilt (q4Q m n) 0=ilt n 0)=False:=by
     simp only[ilt,decide_eq_decide,eq_iff_iff,iff_false]
     exact fun h=>c1 (propext h)
    simp only[STD,hbr,hn0,c0,hbq,w0,w1,w2,o1,o2]
 ·rw[if_neg hb] at hbr
  have hm':(tN m.natAbs).length≤400000:=hm
  have hn':(tN n.natAbs).length≤400000:=hn
  have hD:=qmc (m:=m.natAbs) (n:=n.natAbs) (by omega) (by omega) (by omega)
  have lq:(tN (m.natAbs/n.natAbs)).length≤(tN m.natAbs).length:=uc (Nat.div_le_self _ _)
  have hS:=fun b=>uj (m.natAbs/n.natAbs) b (by omega)
  have hbq:(decide (m<0)=decide (n<0))=((m<0)=(n<0)):=by
   simp only[decide_eq_decide,eq_iff_iff]
  have lf:=qwC m hn0
  have hT:=qhi (fq m n) n (by omega) (by omega)
  have lt:=jv (fq m n) n
  have hM:=q7B m (fq m n*n) (by omega) (by omega)
  obtain⟨g1,g2⟩:=qyQ (m:=m) hn0
  by_cases c1:(m<0)=(n<0)
  ·have e1:=g2 (fun h=>h.2 c1)
   rw[if_neg (by simpa using c1)] at e1
   have hS':=hS false
   simp only[Bool.false_eq_true,if_false] at hS'
   rw[←e1] at hS'
   have hnb:(!Go.Eng.beq (decide (m<0)) (decide (n<0)))=false:=by
    simp only[Go.Eng.beq,Bool.not_eq_false',beq_iff_eq];rw[hbq];exact c1
   by_cases c0:m.natAbs%n.natAbs=0
   ·simp only[STD,hbr,zU,hD,vd,hnb,hS',qS,q3p,c0,hT,hM]
   ·simp only[STD,hbr,zU,hD,vd,hnb,hS',qS,q3p,c0,hT,hM]
  ·have hnb:(!Go.Eng.beq (decide (m<0)) (decide (n<0)))=true:=by
    have:¬(decide (m<0)=decide (n<0)):=by rw[hbq];exact c1
    simp only[Go.Eng.beq,Bool.not_eq_true',beq_eq_false_iff_ne];exact this
   have hS':=hS true
   simp only[if_true] at hS'
   by_cases c0:m.natAbs%n.natAbs=0
   ·have e1:=g2 (fun h=>h.1 c0)
    rw[if_pos c1] at e1
    rw[←e1] at hS'
    simp only[STD,hbr,zU,hD,vd,hnb,hS',qS,q3p,c0,hT,hM]
   ·have e1:=g1 ⟨c0,c1⟩
    have hMi:=q7B (-((m.natAbs/n.natAbs:Nat):Int)) 1 (by rw[qkX];show (tN (m.natAbs/n.natAbs)).length≤_;omega) (by decide)
    rw[qur,←e1] at hMi
    simp only[STD,hbr,zU,hD,vd,hnb,hS',qS,q3p,c0,hMi,hT,hM]
end Go.Eng

namespace Go.Eng
theorem qyP(x:Nat){y:Nat}(h:0<y):fq (x:Int) (y:Int)=((x/y:Nat):Int)∧(x:Int)-fq (x:Int) (y:Int)*(y:Int)=((x%y:Nat):Int):=by
 have e:fq (x:Int) (y:Int)=((x/y:Nat):Int):=by unfold fq;rw[if_pos (by omega)];rfl
 refine⟨e,?_⟩
 rw[e]
 have:=Nat.div_add_mod x y
 have h2:((y*(x/y):Nat):Int)=((x/y:Nat):Int)*(y:Int):=by rw[Nat.mul_comm];simp
 omega
theorem qxe(a b:Nat)(hb:b<9223372036854775808):(qg ye [.i (a:Int),.i (b:Int)]).run=some (0,[.i ((Nat.gcd a b:Nat):Int)]):=by
 obtain⟨j,qs,h1,rfl,rfl⟩:=vU (S:=ye) (fun k ps=>∃x y:Nat,ps=[.i (x:Int),.i (y:Int)]∧y=k∧Nat.gcd x y=Nat.gcd a b)
  (fun j qs=>j=0∧qs=[.i ((Nat.gcd a b:Nat):Int)]) (n:=b) hb (fun k ps hk ⟨x,y,hps,hy,hg⟩=>by
  subst hps
  rw[qhT]
  by_cases h0:y=0
  ·right
   refine⟨0,[.i (x:Int)],?_,rfl,?_⟩
   ·simp only[STD,h0];simp[]
   ·rw[←hg,h0,Nat.gcd_zero_right]
  ·left
   refine⟨x%y,[.i (y:Int),.i ((x%y:Nat):Int)],by rw[←hy];exact Nat.mod_lt _ (by omega),?_,y,x%y,rfl,rfl,?_⟩
   ·simp only[STD,show (0:Int)<(y:Int) by omega,show ¬((y:Int)=0) by omega,qkf]
   ·rw[←hg,Nat.gcd_comm y,←Nat.gcd_rec,Nat.gcd_comm]) (ps:=[.i (a:Int),.i (b:Int)]) ⟨a,b,rfl,rfl,rfl⟩
 exact h1
def eM(a b:Nat):Nat:=if b=0 then 0 else Nat.log2 (a*b)+1+if a<b then 1 else 0
theorem qvA{m n:Nat}(h:m≤n):Nat.log2 m≤Nat.log2 n:=by
 by_cases hm:m=0
 ·subst hm;simp
 ·rcases Nat.lt_or_ge (Nat.log2 n) (Nat.log2 m) with h1|h1
  ·have:=(Nat.log2_lt (show n≠0 by omega)).1 h1
   have h2:=Nat.log2_self_le hm
   omega
  ·exact h1
theorem quV{a b:Nat}(hb:b≠0):eM b (a%b)<eM a b:=by
 have hlt:=Nat.mod_lt a (show 0<b by omega)
 unfold eM
 rw[if_neg hb]
 by_cases hr:a%b=0
 ·rw[if_pos hr];omega
 ·rw[if_neg hr,if_neg (show ¬b<a%b by omega)]
  by_cases hab:a<b
  ·rw[if_pos hab,Nat.mod_eq_of_lt hab,Nat.mul_comm b a];omega
  ·rw[if_neg hab]
   have hd:=Nat.div_add_mod a b
   have hq:1≤a/b:=(Nat.le_div_iff_mul_le (by omega)).2 (by omega)
   have h1:b*1≤b*(a/b):=Nat.mul_le_mul_left _ hq
   have h2:2*(b*(a%b))≤a*b:=by
    have:2*(a%b)≤a:=by omega
    have:=Nat.mul_le_mul_right b this
    rw[Nat.mul_assoc,Nat.mul_comm (a%b) b] at this
    exact this
   have h3:=qvA h2
   have h4:Nat.log2 (2*(b*(a%b)))=Nat.log2 (b*(a%b))+1:=by
    apply Nat.log2_two_mul
    exact Nat.mul_ne_zero hb hr
   omega
theorem qud{x k j:Nat}(h:(tN x).length≤k)(hj:4*k=j):x<2^j:=by
 have h3:x<10^k:=q3U h
 have h4:(10:Nat)^k≤16^k:=Nat.pow_le_pow_left (by omega) _
 have h5:(16:Nat)^k=2^j:=by rw[show (16:Nat)=2^4 from rfl,←Nat.pow_mul,hj]
 rw[h5] at h4
 exact Nat.lt_of_lt_of_le h3 h4
theorem qsD{a b:Nat}(ha:(tN a).length≤400000)(hb:(tN b).length≤400000):eM a b<9223372036854775808:=by
 unfold eM
 have h1:=qls a b
 by_cases h0:a*b=0
 ·rw[h0];simp;split<;>(try split)<;>omega
 ·obtain⟨j,hj⟩:∃j,j=3200000:=⟨_,rfl⟩
  have h2:a*b<2^j:=qud (k:=800000) (by omega) (by omega)
  have:=(Nat.log2_lt h0).2 h2
  split<;>(try split)<;>omega
theorem qff(m n:Int)(hm:nl m≤400000)(hn:nl n≤400000):(uv [.s (tI m),.s (tI n)]).run=some (0,[.s (tN (Nat.gcd m.natAbs n.natAbs))]):=by
 rw[qm3]
 have hm':(tN m.natAbs).length≤400000:=hm
 have hn':(tN n.natAbs).length≤400000:=hn
 have hS:=fun x (h:(tN x).length≤400000)=>uj x false (by omega)
 simp only[Bool.false_eq_true,if_false,ku] at hS
 obtain⟨j,qs,h1,h2,rfl⟩:=vU (S:=q0w) (fun k ps=>∃x y:Nat,ps=[.s (tN x),.s (tN y)]∧eM x y=k∧Nat.gcd x y=Nat.gcd m.natAbs n.natAbs∧(tN x).length≤400000∧(tN y).length≤400000)
  (fun j qs=>(j=0∨j=1)∧qs=[.s (tN (Nat.gcd m.natAbs n.natAbs))]) (n:=eM m.natAbs n.natAbs) (qsD hm' hn') (fun k ps hk ⟨x,y,hps,hy,hg,lx,ly⟩=>by
  subst hps
  rw[qiI]
  by_cases h0:y=0
  ·right
   refine⟨0,[.s (tN x)],?_,.inl rfl,?_⟩
   ·simp only[STD,qS,q3p,h0]
   ·rw[←hg,h0,Nat.gcd_zero_right]
  ·have hbr:=q4M (x:Int) (y:Int)
   rw[ku,ku] at hbr
   simp only[Int.natAbs_natCast] at hbr
   by_cases hb:(tN x).length≤18∧(tN y).length≤18
   ·right
    rw[if_pos hb] at hbr
    have b1:=qwq (m:=(x:Int)) hb.1
    have b2:=qwq (m:=(y:Int)) hb.2
    simp only[Int.natAbs_natCast] at b1 b2
    have hE:=qxe x y (by omega)
    have hgl:Nat.gcd x y≤y:=Nat.gcd_le_right _ (by omega)
    have hO:=q20 ((Nat.gcd x y:Nat):Int) (by omega) (by omega)
    rw[ku] at hO
    refine⟨1,[.s (tN (Nat.gcd x y))],?_,.inr rfl,by rw[hg]⟩
    simp only[STD,qS,q3p,h0,hbr,hE,hO]
   ·left
    rw[if_neg hb] at hbr
    have hP:=q2P (x:Int) (y:Int) (by omega) (by exact lx) (by exact ly)
    rw[ku,ku,(qyP x (show 0<y by omega)).2,ku] at hP
    refine⟨eM y (x%y),[.s (tN y),.s (tN (x%y))],by rw[←hy];exact quV h0,?_,y,x%y,rfl,rfl,?_,ly,Nat.le_trans (uc (Nat.le_of_lt (Nat.mod_lt _ (by omega)))) ly⟩
    ·simp only[STD,qS,q3p,h0,hbr,hP]
    ·rw[←hg,Nat.gcd_comm y,←Nat.gcd_rec,Nat.gcd_comm]) (ps:=[.s (tN m.natAbs),.s (tN n.natAbs)]) ⟨_,_,rfl,rfl,rfl,hm',hn'⟩
 rcases h2 with rfl|rfl
 ·simp only[STD,zU,hS _ hm',hS _ hn',h1,qv h1,ite_self]
 ·simp only[STD,zU,hS _ hm',hS _ hn',h1,qv h1,ite_self]
def mag(s:List UInt8):List UInt8:=if s.getD 0 0=45 then s.drop 1 else s
theorem qqb(m:Int):mag (tI m)=tN m.natAbs:=by
 unfold mag
 by_cases h:m<0
 ·rw[q9k h];simp
 ·rw[qgg h]
  obtain⟨c,t,e,h1,h2⟩:=qet (zE m.natAbs) (ql9 _)
  rw[e]
  simp only[List.getD_cons_zero]
  rw[if_neg]
  intro hc;subst hc;revert h1;decide
theorem qqe(s:List UInt8):(∃m:Int,s=tI m)↔mag s≠[]∧q3L (mag s)∧((mag s).getD 0 0=48→s.length=1):=by
 constructor
 ·rintro ⟨m,rfl⟩
  rw[qqb]
  refine⟨ql9 _,zE _,fun h=>?_⟩
  rcases quI m.natAbs with h1|h1
  ·have h2:=qom m.natAbs
   have hv:m.natAbs=0:=by
    obtain⟨c,e⟩:∃c,tN m.natAbs=[c]:=List.length_eq_one_iff.1 h1
    rw[e] at h
    simp at h
    have:=kP m.natAbs
    rw[e,h] at this
    simpa[val,dv] using this.symm
   have hm0:m=0:=by omega
   rw[hm0];rfl
  ·exact absurd h h1
 ·rintro ⟨h1,h2,h3⟩
  by_cases h45:s.getD 0 0=45
  ·have hm:mag s=s.drop 1:=by unfold mag;rw[if_pos h45]
   obtain⟨c,t,rfl⟩:∃c t,s=c::t:=by
    cases s with
    | nil=>simp at h45
    | cons c t=>exact⟨c,t,rfl⟩
   simp at h45
   subst h45
   rw[hm] at h1 h2 h3
   simp only[List.drop_succ_cons,List.drop_zero] at h1 h2 h3
   have h4:t.getD 0 0≠48:=fun h=>by
    have:=h3 h
    simp at this
    exact h1 this
   have hv:=qsk h2 h1 h4
   have hp:0<10^(t.length-1):=Nat.pow_pos (by omega)
   refine⟨-((val t:Nat):Int),?_⟩
   rw[q9k (by omega)]
   simp only[Int.natAbs_neg,Int.natAbs_natCast]
   rw[←qlb h2 h1 (.inr h4)]
  ·have hm:mag s=s:=by unfold mag;rw[if_neg h45]
   rw[hm] at h1 h2 h3
   refine⟨((val s:Nat):Int),?_⟩
   rw[ku]
   refine qlb h2 h1 ?_
   by_cases h4:s.getD 0 0=48
   ·exact .inl (h3 h4)
   ·exact .inr h4
open Classical in
noncomputable def qqL(s:List UInt8):Int:=if ∃m:Int,s=tI m then (if (mag s).length≤1024 then 0 else 11) else 3
theorem qzA(s:List UInt8)(hl:s.length≤9223372036854775807):(qo [.s s]).run=some (0,[.s (mag s)]):=by
 rw[qhI]
 cases s with
 | nil=>simp only[STD,qS];rfl
 | cons c t=>
  have h1:(0:Int)<ql (c::t):=by unfold ql;simp only[List.length_cons];omega
  have h2:(1:Int)≤ql (c::t):=by omega
  have hs:sat (c::t) 0=(c.toNat:Int):=by simp[sat]
  have hc:((c.toNat:Int)=45)=(c=45):=by
   simp only[eq_iff_iff]
   exact⟨fun h=>UInt8.toNat_inj.1 (by show c.toNat=45;omega),fun h=>by rw[h];rfl⟩
  simp only[STD,qS,show ¬(c::t=[]) by simp,h1,h2,hs,hc,Int.le_refl,and_self,show (0:Int)≤ql (c::t) by omega,show (0:Int)≤1 by omega]
  unfold mag
  simp only[List.getD_cons_zero]
  by_cases h:c=45
  ·rw[if_pos h,if_pos h];simp[q9J,ql]
  ·rw[if_neg h,if_neg h]
theorem qgG(s:List UInt8)(hl:s.length≤1000000000):(q1I [.s s]).run=some (0,[.i (qqL s)]):=by
 rw[qmA]
 have hsz:=qzA s (by omega)
 have hml:(mag s).length≤s.length:=by unfold mag;split<;>simp
 obtain⟨j,qs,h1,h2⟩:=vU (S:=kt) (fun k ps=>∃i:Nat,ps=[.s (mag s),.i (i:Int)]∧i+k=(mag s).length∧q3L ((mag s).take i))
  (fun j qs=>(q3L (mag s)∧j=0∧qs=[.s (mag s)])∨(¬q3L (mag s)∧j=1∧qs=[.i 3])) (n:=(mag s).length) (by omega) (fun k ps hk ⟨i,hps,hi,hd⟩=>by
  subst hps
  rw[qjI]
  by_cases hlt:i<(mag s).length
  ·have a1:(i:Int)<ql (mag s):=by unfold ql;omega
   have a2:(0:Int)≤(i:Int):=by omega
   have hs:=qgb hlt
   have hw:qh .i64 (i:Int) 1=((i+1:Nat):Int):=by rw[zc (by omega)];omega
   by_cases b1:((mag s)[i].toNat:Int)<48
   ·right
    refine⟨1,[.i 3],?_,.inr ⟨fun h=>?_,rfl,rfl⟩⟩
    ·simp only[STD,a1,a2,hs,b1,and_self]
    ·have:=(qel h hlt).1;omega
   ·by_cases b2:(57:Int)<((mag s)[i].toNat:Int)
    ·right
     refine⟨1,[.i 3],?_,.inr ⟨fun h=>?_,rfl,rfl⟩⟩
     ·simp only[STD,a1,a2,hs,b1,b2,and_self]
     ·have:=(qel h hlt).2;omega
    ·left
     refine⟨k-1,[.s (mag s),.i ((i+1:Nat):Int)],by omega,?_,i+1,rfl,by omega,?_⟩
     ·simp only[STD,a1,a2,hs,b1,b2,and_self,hw]
     ·rw[List.take_succ_eq_append_getElem hlt]
      exact q5L.2 ⟨hd,fun c hc=>by simp at hc;subst hc;omega⟩
  ·right
   have a1:¬((i:Int)<ql (mag s)):=by unfold ql;omega
   refine⟨0,[.s (mag s)],?_,.inl ⟨?_,rfl,rfl⟩⟩
   ·simp only[STD,a1]
   ·rwa [List.take_of_length_le (by omega)] at hd) (ps:=[.s (mag s),.i 0]) ⟨0,rfl,by omega,by simpa using qhh⟩
 have hcan:=qqe s
 unfold qqL
 by_cases hne:mag s=[]
 ·rw[if_neg (fun h=>(hcan.1 h).1 hne)]
  simp only[STD,hsz,qS,hne]
 ·have hp:0<(mag s).length:=List.length_pos_iff.2 hne
  have a1:(0:Int)<ql (mag s):=by unfold ql;omega
  have hs:sat (mag s) 0=((mag s)[0].toNat:Int):=qgb (i:=0) hp
  have h48:((mag s)[0].toNat:Int)=48↔(mag s).getD 0 0=48:=by
   have:(mag s).getD 0 0=(mag s)[0]:=by simp[List.getD_eq_getElem?_getD,hp]
   rw[this]
   exact⟨fun h=>UInt8.toNat_inj.1 (by show (mag s)[0].toNat=48;omega),fun h=>by rw[h];rfl⟩
  have hl1:(1<ql s)=(1<s.length):=by unfold ql;simp only[eq_iff_iff];omega
  have hl2:(1<ql (mag s))=(1<(mag s).length):=by unfold ql;simp only[eq_iff_iff];omega
  have hl3:(1024<ql (mag s))=¬((mag s).length≤1024):=by unfold ql;simp only[eq_iff_iff];omega
  by_cases hz:((mag s)[0].toNat:Int)=48
  ·by_cases hs1:1<s.length
   ·rw[if_neg (fun h=>by have:=(hcan.1 h).2.2 (h48.1 hz);omega)]
    by_cases hs2:1<(mag s).length
    ·simp only[STD,hsz,qS,hne,a1,hs,hz,hl1,hl2,hs1,hs2,Int.le_refl,and_self]
    ·simp only[STD,hsz,qS,hne,a1,hs,hz,hl1,hl2,hs1,hs2,Int.le_refl,and_self]
   ·have hs2:¬1<(mag s).length:=by omega
    rcases h2 with⟨hd,rfl,rfl⟩|⟨hd,rfl,rfl⟩
    ·rw[if_pos (hcan.2 ⟨hne,hd,fun _=>by omega⟩)]
     simp only[STD,hsz,qS,hne,a1,hs,hz,hl1,hl2,hl3,hs1,hs2,Int.le_refl,and_self,h1,qv h1]
     split<;>simp_all
    ·rw[if_neg (fun h=>hd (hcan.1 h).2.1)]
     simp only[STD,hsz,qS,hne,a1,hs,hz,hl1,hl2,hs1,hs2,Int.le_refl,and_self,h1,qv h1,show ¬(1=0) by omega]
  ·rcases h2 with⟨hd,rfl,rfl⟩|⟨hd,rfl,rfl⟩
   ·rw[if_pos (hcan.2 ⟨hne,hd,fun h=>absurd (h48.2 h) hz⟩)]
    simp only[STD,hsz,qS,hne,a1,hs,hz,hl1,hl2,hl3,Int.le_refl,and_self,h1,qv h1]
    split<;>simp_all
   ·rw[if_neg (fun h=>hd (hcan.1 h).2.1)]
    simp only[STD,hsz,qS,hne,a1,hs,hz,hl1,hl2,Int.le_refl,and_self,h1,qv h1,show ¬(1=0) by omega]
end Go.Eng

namespace Go.Eng
def tQ(q:Rat):List UInt8:=if q.den=1 then tI q.num else tI q.num++47::tN q.den
def dl(n:Nat):Nat:=(tN n).length
def qn(q:Rat):Nat:=nl q.num
def qd(q:Rat):Nat:=dl q.den
theorem qui{s:List UInt8}(h:q3L s):∀c,c∈s→c≠47:=fun c hc e=>by
 have:=h c hc
 rw[e] at this
 revert this;decide
theorem qmR(m:Int):∀c,c∈tI m→c≠47:=by
 intro c hc
 unfold tI at hc
 split at hc
 ·rcases List.mem_cons.1 hc with rfl|hc
  ·decide
  ·exact qui (zE _) c hc
 ·exact qui (zE _) c hc
theorem qso:∀{s s' t t':List UInt8},(∀c,c∈s→c≠47)→(∀c,c∈s'→c≠47)→s++47::t=s'++47::t'→s=s'∧t=t'
 | [],[],t,t',_,_,h=>⟨rfl,by simpa using h⟩
 | [],c::s',t,t',_,h2,h=>by
  simp only[List.nil_append,List.cons_append,List.cons.injEq] at h
  exact absurd h.1.symm (h2 c List.mem_cons_self)
 | c::s,[],t,t',h1,_,h=>by
  simp only[List.nil_append,List.cons_append,List.cons.injEq] at h
  exact absurd h.1 (h1 c List.mem_cons_self)
 | c::s,c'::s',t,t',h1,h2,h=>by
  simp only[List.cons_append,List.cons.injEq] at h
  obtain⟨e1,e2⟩:=qso (fun c hc=>h1 c (List.mem_cons_of_mem _ hc)) (fun c hc=>h2 c (List.mem_cons_of_mem _ hc)) h.2
  exact⟨by rw[h.1,e1],e2⟩
theorem q8E{q:Rat}(h:q.den=1):tQ q=tI q.num:=by unfold tQ;rw[if_pos h]
theorem q4v{q:Rat}(h:q.den≠1):tQ q=tI q.num++47::tN q.den:=by unfold tQ;rw[if_neg h]
theorem qzb{a b:Rat}(h:tQ a=tQ b):a=b:=by
 by_cases ha:a.den=1<;>by_cases hb:b.den=1
 ·rw[q8E ha,q8E hb] at h
  exact Rat.ext (qpu h) (ha.trans hb.symm)
 ·rw[q8E ha,q4v hb] at h
  exact absurd rfl (qmR a.num 47 (by rw[h];simp))
 ·rw[q4v ha,q8E hb] at h
  exact absurd rfl (qmR b.num 47 (by rw[←h];simp))
 ·rw[q4v ha,q4v hb] at h
  obtain⟨e1,e2⟩:=qso (qmR _) (qmR _) h
  exact Rat.ext (qpu e1) (qno e2)
theorem qtb(a b:Rat):(tQ a=tQ b)=(a=b):=propext ⟨qzb,fun h=>by rw[h]⟩
theorem qut(m:Int):tQ (m:Rat)=tI m:=q8E (by simp)
theorem qwZ(n:Nat):tQ (OfNat.ofNat n:Rat)=tN n:=by
 rw[q8E (by simp)]
 simp only[Rat.num_ofNat]
 exact ku n
theorem qiP{m n:Int}(h:m.natAbs≤n.natAbs):nl m≤nl n:=uc h
theorem qw0{m n:Nat}(h:m≤n):dl m≤dl n:=uc h
theorem qdR(n:Nat):nl (n:Int)=dl n:=rfl
theorem qvy(m n:Nat):dl (m*n)≤dl m+dl n:=qls m n
theorem qsl(m n:Int):nl (m-n)≤max (nl m) (nl n)+1:=by
 rw[Int.sub_eq_add_neg]
 have:=qnf m (-n)
 rwa [qkX] at this
theorem qeh(N:Int)(D:Nat):nl (mkRat N D).num≤nl N∧dl (mkRat N D).den≤dl D:=by
 rw[Rat.num_mkRat,Rat.den_mkRat]
 by_cases h:D=0
 ·rw[if_pos h,if_pos h,h]
  exact⟨qiP (by simp),by decide⟩
 ·rw[if_neg h,if_neg h]
  exact⟨qiP (Int.natAbs_ediv_le_natAbs _ _),qw0 (Nat.div_le_self _ _)⟩
theorem qwh(a b:Rat):qn (a*b)≤qn a+qn b:=by
 unfold qn
 rw[Rat.mul_def']
 exact Nat.le_trans (qeh _ _).1 (jv _ _)
theorem qw4(a b:Rat):qd (a*b)≤qd a+qd b:=by
 unfold qd
 rw[Rat.mul_def']
 exact Nat.le_trans (qeh _ _).2 (qvy _ _)
theorem qza(a b:Rat):qn (a+b)≤max (qn a+qd b) (qn b+qd a)+1:=by
 unfold qn qd
 rw[Rat.add_def']
 have h1:=(qeh (a.num*b.den+b.num*a.den) (a.den*b.den)).1
 have h2:=qnf (a.num*b.den) (b.num*a.den)
 have h3:=jv a.num b.den
 have h4:=jv b.num a.den
 rw[qdR] at h3 h4
 omega
theorem qze(a b:Rat):qd (a+b)≤qd a+qd b:=by
 unfold qd
 rw[Rat.add_def']
 exact Nat.le_trans (qeh _ _).2 (qvy _ _)
theorem qz9(a b:Rat):qn (a-b)≤max (qn a+qd b) (qn b+qd a)+1:=by
 unfold qn qd
 rw[Rat.sub_def']
 have h1:=(qeh (a.num*b.den-b.num*a.den) (a.den*b.den)).1
 have h2:=qsl (a.num*b.den) (b.num*a.den)
 have h3:=jv a.num b.den
 have h4:=jv b.num a.den
 rw[qdR] at h3 h4
 omega
theorem qzc(a b:Rat):qd (a-b)≤qd a+qd b:=by
 unfold qd
 rw[Rat.sub_def']
 exact Nat.le_trans (qeh _ _).2 (qvy _ _)
theorem qz8(a:Rat):qn (-a)=qn a:=by unfold qn;rw[Rat.neg_num,qkX]
theorem qjz(a:Rat):0<qn a:=qlZ _
theorem qqr(a:Rat):0<qd a:=qf0 _
theorem qz2{a:Rat}(h:a≠0):qn a⁻¹≤qd a:=by
 unfold qn qd
 rw[Rat.num_inv,←qdR]
 apply qiP
 rw[Int.natAbs_mul,Int.natAbs_sign_of_ne_zero (by rwa [Ne,Rat.num_eq_zero])]
 simp
theorem qzw{a:Rat}(h:a≠0):qd a⁻¹≤qn a:=by
 unfold qn qd
 rw[Rat.den_inv,if_neg (by rwa [Rat.num_eq_zero])]
 exact Nat.le_refl _
theorem qyR(a:Rat){b:Rat}(h:b≠0):qn (a/b)≤qn a+qd b:=by
 rw[Rat.div_def]
 exact Nat.le_trans (qwh _ _) (Nat.add_le_add_left (qz2 h) _)
theorem qyS(a:Rat){b:Rat}(h:b≠0):qd (a/b)≤qd a+qn b:=by
 rw[Rat.div_def]
 exact Nat.le_trans (qw4 _ _) (Nat.add_le_add_left (qzw h) _)
def sgq(q:Rat):Int:=sgn q.num
theorem qbI{m k:Int}(hk:0<k):sgn (m*k)=sgn m:=by
 unfold sgn
 rcases Int.lt_trichotomy m 0 with h|h|h
 ·have:=Int.mul_neg_of_neg_of_pos h hk
  rw[if_pos h,if_pos this]
 ·subst h;simp
 ·have:=Int.mul_pos h hk
  rw[if_neg (by omega),if_neg (by omega),if_neg (by omega),if_neg (by omega)]
theorem qy0(m:Int):sgn (-m)=-sgn m:=by
 unfold sgn
 rcases Int.lt_trichotomy m 0 with h|h|h
 ·rw[if_pos h,if_neg (by omega),if_neg (by omega)];rfl
 ·subst h;rfl
 ·rw[if_pos (by omega),if_neg (by omega),if_neg (by omega)]
theorem qoZ{q:Rat}(h:0<q):sgq q=1:=by
 unfold sgq sgn
 have h1:0≤q.num:=Rat.num_nonneg.2 (Rat.le_of_lt h)
 have h2:q.num≠0:=fun e=>by rw[Rat.num_eq_zero] at e;rw[e] at h;exact Rat.lt_irrefl h
 rw[if_neg (by omega),if_neg h2]
theorem qyC(q:Rat):sgq (-q)=-sgq q:=by unfold sgq;rw[Rat.neg_num,qy0]
theorem qw3{q:Rat}(h:q<0):sgq q=-1:=by
 have h1:0 < -q:=by grind
 have:=qoZ h1
 rw[qyC] at this
 omega
theorem qaR(q:Rat):(q<0∧sgq q=-1)∨(q=0∧sgq q=0)∨(0<q∧sgq q=1):=by
 by_cases h1:q<0
 ·exact .inl ⟨h1,qw3 h1⟩
 ·by_cases h2:q=0
  ·exact .inr (.inl ⟨h2,by rw[h2];rfl⟩)
  ·exact .inr (.inr ⟨by grind,qoZ (by grind)⟩)
theorem qt8(q:Rat):(sgq q≤0)=(q≤0):=by
 rcases qaR q with⟨h,e⟩|⟨h,e⟩|⟨h,e⟩<;>rw[e]<;>simp<;>grind
theorem qnb(q:Rat):(sgq q<0)=(q<0):=by
 rcases qaR q with⟨h,e⟩|⟨h,e⟩|⟨h,e⟩<;>rw[e]<;>simp<;>grind
theorem qvL(N:Int){D:Nat}(h:D≠0):sgq (mkRat N D)=sgn N:=by
 have hp:(0:Rat)<(D:Rat):=by
  have:0<D:=by omega
  exact Rat.natCast_pos.2 this
 have e:(mkRat N D)*(D:Rat)=(N:Rat):=by
  rw[Rat.mkRat_eq_div]
  exact Rat.div_mul_cancel (by grind)
 have h2:sgn N=sgq (N:Rat):=by unfold sgq;simp
 rw[h2,←e]
 rcases qaR (mkRat N D) with⟨h,e⟩|⟨h,e⟩|⟨h,e⟩
 ·rw[e,qw3]
  exact(Rat.mul_neg_iff_of_pos_right hp).2 h
 ·rw[e,h,Rat.zero_mul];rfl
 ·rw[e,qoZ]
  exact Rat.mul_pos h hp
theorem qyl(a b:Rat):sgq (a-b)=sgn (a.num*b.den-b.num*a.den):=by
 rw[Rat.sub_def',qvL]
 exact Nat.mul_ne_zero a.den_nz b.den_nz
end Go.Eng

namespace Go.Eng
def sP(s:List UInt8):Nat:=s.findIdx (·==47)
def spn(s:List UInt8):List UInt8:=s.take (sP s)
def spd(s:List UInt8):List UInt8:=if sP s<s.length then s.drop (sP s+1) else [49]
theorem qxb(s:List UInt8):sP s≤s.length:=List.findIdx_le_length
theorem qxZ{s:List UInt8}{i:Nat}(h:i<s.length)(h1:s[i]=47)(h2:∀j (hj:j<i),s[j]≠47):sP s=i:=by
 unfold sP
 rw[List.findIdx_eq h]
 exact⟨by simp[h1],fun j hj=>by simp[h2 j hj]⟩
theorem qoy{s:List UInt8}(h:∀c,c∈s→c≠47):sP s=s.length:=by
 unfold sP
 rw[List.findIdx_eq_length]
 intro x hx
 simpa using h x hx
theorem qvk{s t:List UInt8}(h:∀c,c∈s→c≠47):sP (s++47::t)=s.length:=by
 apply qxZ (by simp)
 ·simp
 ·intro j hj
  rw[List.getElem_append_left hj]
  exact h _ (List.getElem_mem hj)
theorem quZ(q:Rat):spn (tQ q)=tI q.num:=by
 unfold spn
 by_cases h:q.den=1
 ·rw[q8E h,qoy (qmR _),List.take_length]
 ·rw[q4v h,qvk (qmR _)];simp
theorem qvg(q:Rat):spd (tQ q)=tN q.den:=by
 unfold spd
 by_cases h:q.den=1
 ·rw[q8E h,qoy (qmR _),if_neg (Nat.lt_irrefl _),h];rfl
 ·rw[q4v h,qvk (qmR _),if_pos (by simp)];simp
theorem qwa(s:List UInt8)(hl:s.length≤9223372036854775807):(q0h [.s s]).run=some (0,[.i (if sP s<s.length then (sP s:Int) else -1)]):=by
 rw[qms]
 obtain⟨j,qs,h1,h2⟩:=vU (S:=q1p) (fun k ps=>∃i:Nat,ps=[.s s,.i (i:Int)]∧i+k=s.length∧∀j (hj:j<i) (hj2:j<s.length),s[j]≠47)
  (fun j qs=>(¬sP s<s.length∧j=0∧qs=[])∨(sP s<s.length∧j=1∧qs=[.i (sP s:Int)])) (n:=s.length) (by omega) (fun k ps hk ⟨i,hps,hi,hd⟩=>by
  subst hps
  rw[qk1]
  by_cases hlt:i<s.length
  ·have a1:(i:Int)<ql s:=by unfold ql;omega
   have a2:(0:Int)≤(i:Int):=by omega
   have hs:=qgb hlt
   have hw:qh .i64 (i:Int) 1=((i+1:Nat):Int):=by rw[zc (by omega)];omega
   by_cases b1:s[i]=47
   ·right
    have e:=qxZ hlt b1 (fun j hj=>hd j hj (by omega))
    have b2:(s[i].toNat:Int)=47:=by rw[b1];rfl
    refine⟨1,[.i (i:Int)],?_,.inr ⟨by rw[e];exact hlt,rfl,by rw[e]⟩⟩
    simp only[STD,a1,a2,hs,b2,and_self]
   ·left
    have b2:¬(s[i].toNat:Int)=47:=fun h=>b1 (UInt8.toNat_inj.1 (by show s[i].toNat=47;omega))
    refine⟨k-1,[.s s,.i ((i+1:Nat):Int)],by omega,?_,i+1,rfl,by omega,?_⟩
    ·simp only[STD,a1,a2,hs,b2,and_self,hw]
    ·intro j hj hj2
     rcases Nat.lt_or_ge j i with h|h
     ·exact hd j h hj2
     ·obtain rfl:j=i:=by omega
      exact b1
  ·right
   have a1:¬((i:Int)<ql s):=by unfold ql;omega
   refine⟨0,[],?_,.inl ⟨?_,rfl,rfl⟩⟩
   ·simp only[STD,a1]
   ·rw[qoy]
    ·omega
    ·intro c hc
     obtain⟨j,hj,rfl⟩:=List.mem_iff_getElem.1 hc
     exact hd j (by omega) hj) (ps:=[.s s,.i 0]) ⟨0,rfl,by omega,fun j hj=>by omega⟩
 rcases h2 with⟨h2,rfl,rfl⟩|⟨h2,rfl,rfl⟩
 ·rw[if_neg h2];simp only[STD,h1,qv h1]
 ·rw[if_pos h2];simp only[STD,h1,qv h1,show ¬(1=0) by omega]
theorem qvS(s:List UInt8)(hl:s.length≤9223372036854775807):(vn [.s s]).run=some (0,[.s (spn s),.s (spd s)]):=by
 rw[qn1]
 have hs:=qwa s hl
 have hle:=qxb s
 unfold spd spn
 by_cases h:sP s<s.length
 ·rw[if_pos h] at hs ⊢
  have a1:¬((sP s:Int)<0):=by omega
  have a2:(sP s:Int)≤ql s:=by unfold ql;omega
  have hw:qh .i64 (sP s:Int) 1=((sP s+1:Nat):Int):=by rw[zc (by omega)];omega
  have a3:((sP s+1:Nat):Int)≤ql s:=by unfold ql;omega
  have e1:q9J s 0 (sP s:Int)=s.take (sP s):=by simp[q9J]
  have e2:q9J s ((sP s+1:Nat):Int) (ql s)=s.drop (sP s+1):=by
   unfold q9J ql
   simp only[Int.toNat_natCast,List.take_length]
  simp only[STD,hs,a1,a2,hw,a3,e1,e2,show (0:Int)≤(sP s:Int) by omega,show (0:Int)≤((sP s+1:Nat):Int) by omega,show (0:Int)≤ql s by unfold ql;omega,Int.le_refl,and_self]
 ·rw[if_neg h] at hs ⊢
  have e:s.take (sP s)=s:=List.take_of_length_le (by omega)
  rw[e]
  simp only[STD,hs,show (-1:Int)<0 by omega]
theorem qxt(q:Rat):(tQ q).length≤qn q+qd q+2:=by
 have h1:=qpX q.num
 unfold qn qd nl dl
 by_cases h:q.den=1
 ·rw[q8E h];omega
 ·rw[q4v h];simp;omega
theorem qo5(q:Rat)(hn:qn q≤400000)(hd:qd q≤400000):(vn [.s (tQ q)]).run=some (0,[.s (tI q.num),.s (tI (q.den:Int))]):=by
 have:=qxt q
 rw[qvS _ (by omega),quZ,qvg,ku]
theorem qdV(a b:Rat)(ha:qn a≤400000)(ha':qd a≤400000)(hb:qn b≤400000)(hb':qd b≤400000) :
  (zi [.s (tQ a),.s (tQ b)]).run=some (0,[.r [[.s (tI (a.num*b.den))],[.s (tI (b.num*a.den))],[.s (tI (a.den*b.den))],[.s (tI (a.num*b.num))],[.s (tI (a.den*b.num))]]]):=by
 rw[qjQ]
 have t:=fun (m n:Int) (h1:nl m≤400000) (h2:nl n≤400000)=>qhi m n (by omega) (by omega)
 simp only[STD,qo5 a ha ha',qo5 b hb hb',t a.num b.den ha hb',t b.num a.den hb ha',t a.den b.den ha' hb',t a.num b.num ha hb,t a.den b.num ha' hb]
theorem q3G(n:Nat):(tN n=[49])=(n=1):=by
 have:tN 1=[49]:=rfl
 rw[←this];exact propext ⟨fun h=>qno h,fun h=>by rw[h]⟩
theorem qkd(m n:Int)(hn:n≠0)(hm':nl m≤400000)(hn':nl n≤400000):(wd [.s (tI m),.s (tI n)]).run=some (0,[.s (tQ (Rat.divInt m n))]):=by
 rw[qlL]
 have hS:=qff m n hm' hn'
 have hg0:0<Nat.gcd m.natAbs n.natAbs:=Nat.gcd_pos_of_pos_right _ (by omega)
 have hgn:Nat.gcd m.natAbs n.natAbs≤n.natAbs:=Nat.gcd_le_right _ (by omega)
 have hgl:(tN (Nat.gcd m.natAbs n.natAbs)).length≤400000:=Nat.le_trans (uc hgn) hn'
 have hnum:=Rat.num_divInt m n
 have hden:=Rat.den_divInt m n
 rw[if_neg hn] at hden
 have hgc:Int.gcd n m=Nat.gcd m.natAbs n.natAbs:=by unfold Int.gcd;exact Nat.gcd_comm _ _
 rw[hgc] at hnum hden
 obtain⟨k,hk⟩:((Nat.gcd m.natAbs n.natAbs:Nat):Int) ∣ m:=Int.ofNat_dvd_left.2 (Nat.gcd_dvd_left _ _)
 obtain⟨l,hl⟩:((Nat.gcd m.natAbs n.natAbs:Nat):Int) ∣ n:=Int.ofNat_dvd_left.2 (Nat.gcd_dvd_right _ _)
 generalize Nat.gcd m.natAbs n.natAbs=g at *
 generalize Rat.divInt m n=q at *
 have hB:=vd n
 have hm2:k*(g:Int)=m:=by rw[Int.mul_comm];exact hk.symm
 have hn2:l*(g:Int)=n:=by rw[Int.mul_comm];exact hl.symm
 have hql:nl q.num≤400000:=by
  refine Nat.le_trans (qiP ?_) hm'
  rw[hnum]
  refine Nat.le_trans (Int.natAbs_ediv_le_natAbs _ _) ?_
  rw[Int.natAbs_mul,Int.natAbs_sign_of_ne_zero hn];omega
 have hdl:(tN q.den).length≤400000:=by
  refine Nat.le_trans (uc ?_) hn'
  rw[hden];exact Nat.div_le_self _ _
 have hil:=qpX q.num
 have hil2:(tN q.num.natAbs).length≤400000:=hql
 have fin:(Tree.br (seq (tI (q.den:Int)) [49]) (Tree.leaf (0,[PV.s (tI q.num)])) (Tree.br (ile (ql (tI q.num)+ql [47]) 140737488355328) (Tree.br (ile (ql (qaw (tI q.num) [47])+ql (tI (q.den:Int))) 140737488355328)
   (Tree.leaf (0,[PV.s (qaw (qaw (tI q.num) [47]) (tI (q.den:Int)))])) Tree.fail) Tree.fail)).run=some (0,[PV.s (tQ q)]):=by
  rw[ku]
  have a1:ql (tI q.num)+ql [47]≤140737488355328:=by unfold ql;simp;omega
  have a2:ql (qaw (tI q.num) [47])+ql (tN q.den)≤140737488355328:=by unfold ql qaw;simp;omega
  by_cases h1:q.den=1
  ·simp only[STD,qS,q3G,h1,q8E h1]
  ·simp only[STD,qS,q3G,h1,q4v h1,a1,a2]
   simp[qaw]
 by_cases hneg:n<0
 ·have hT:=qa5 (g:Int) (by simp only[Int.natAbs_natCast];omega)
  rw[ku] at hT
  have e1:fq m (-(g:Int))=q.num:=by
   have:fq ((-k)*(-(g:Int))) (-(g:Int))=-k:=qkh (by omega)
   rw[show (-k)*(-(g:Int))=m by rw[Int.neg_mul_neg];exact hm2] at this
   rw[this,hnum,Int.sign_eq_neg_one_of_neg hneg,←hm2]
   rw[show (-1:Int)*(k*(g:Int))=(-k)*(g:Int) by rw[Int.neg_mul,Int.one_mul,Int.neg_mul]]
   exact(Int.mul_ediv_cancel _ (by omega)).symm
  have e2:fq n (-(g:Int))=(q.den:Int):=by
   have:fq ((-l)*(-(g:Int))) (-(g:Int))=-l:=qkh (by omega)
   rw[show (-l)*(-(g:Int))=n by rw[Int.neg_mul_neg];exact hn2] at this
   rw[this,hden]
   have h3:(n.natAbs:Int)=(-l)*(g:Int):=by rw[Int.neg_mul];omega
   rw[Int.natCast_ediv,h3,Int.mul_ediv_cancel _ (by omega)]
  have P1:=q2P m (-(g:Int)) (by omega) hm' (by rw[qkX];exact hgl)
  have P2:=q2P n (-(g:Int)) (by omega) hn' (by rw[qkX];exact hgl)
  rw[e1] at P1
  rw[e2] at P2
  simp only[STD,hS,hB,hneg,hT,P1,P2] at fin ⊢
  exact fin
 ·have e1:fq m (g:Int)=q.num:=by
   have:fq (k*(g:Int)) (g:Int)=k:=qkh (by omega)
   rw[hm2] at this
   rw[this,hnum,Int.sign_eq_one_of_pos (by omega),Int.one_mul,←hm2]
   exact(Int.mul_ediv_cancel _ (by omega)).symm
  have e2:fq n (g:Int)=(q.den:Int):=by
   have:fq (l*(g:Int)) (g:Int)=l:=qkh (by omega)
   rw[hn2] at this
   rw[this,hden]
   have h3:(n.natAbs:Int)=l*(g:Int):=by omega
   rw[Int.natCast_ediv,h3,Int.mul_ediv_cancel _ (by omega)]
  have P1:=q2P m (g:Int) (by omega) hm' hgl
  have P2:=q2P n (g:Int) (by omega) hn' hgl
  rw[e1,ku] at P1
  rw[e2,ku] at P2
  simp only[STD,hS,hB,hneg,P1,P2] at fin ⊢
  rw[ku] at fin
  exact fin
def sm(K:Nat)(q:Rat):Prop:=qn q≤K∧qd q≤K
theorem qqK(a:Rat):(0:Int)<(a.den:Int):=by have:=a.den_nz;omega
theorem q3I{a b:Rat}(ha:sm 100000 a)(hb:sm 100000 b):(wL [.s (tQ a),.s (tQ b)]).run=some (0,[.s (tQ (a+b))]):=by
 rw[qo0]
 obtain⟨h1,h2⟩:=ha
 obtain⟨h3,h4⟩:=hb
 have hc:=qdV a b (by omega) (by omega) (by omega) (by omega)
 simp only[qn,qd] at h1 h2 h3 h4
 have l1:=jv a.num b.den
 have l2:=jv b.num a.den
 have l3:=jv a.den b.den
 rw[qdR] at l1 l2 l3
 rw[qdR] at l3
 have l4:=qnf (a.num*b.den) (b.num*a.den)
 have hP:=qjc (a.num*b.den) (b.num*a.den) (by omega) (by omega)
 have hL:=qkd (a.num*b.den+b.num*a.den) (a.den*b.den) (by have:=Int.mul_pos (qqK a) (qqK b);omega) (by omega) (by omega)
 have e:Rat.divInt (a.num*b.den+b.num*a.den) ((a.den:Int)*(b.den:Int))=a+b:=by
  rw[Rat.add_def',←Rat.divInt_ofNat];simp
 rw[e] at hL
 simp only[STD,hc,cS,wY,qt,List.length_cons,List.length_nil,Int.toNat_zero,List.getD_cons_zero,U.toS,show (1:Int).toNat=1 from rfl,show (2:Int).toNat=2 from rfl,List.getD_cons_succ,hP,hL]
 simp[]
theorem q0b{a b:Rat}(ha:sm 100000 a)(hb:sm 100000 b):(zm [.s (tQ a),.s (tQ b)]).run=some (0,[.s (tQ (a-b))]):=by
 rw[qmz]
 obtain⟨h1,h2⟩:=ha
 obtain⟨h3,h4⟩:=hb
 have hc:=qdV a b (by omega) (by omega) (by omega) (by omega)
 simp only[qn,qd] at h1 h2 h3 h4
 have l1:=jv a.num b.den
 have l2:=jv b.num a.den
 have l3:=jv a.den b.den
 rw[qdR] at l1 l2 l3
 rw[qdR] at l3
 have l4:=qsl (a.num*b.den) (b.num*a.den)
 have hP:=q7B (a.num*b.den) (b.num*a.den) (by omega) (by omega)
 have hL:=qkd (a.num*b.den-b.num*a.den) (a.den*b.den) (by have:=Int.mul_pos (qqK a) (qqK b);omega) (by omega) (by omega)
 have e:Rat.divInt (a.num*b.den-b.num*a.den) ((a.den:Int)*(b.den:Int))=a-b:=by
  rw[Rat.sub_def',←Rat.divInt_ofNat];simp
 rw[e] at hL
 simp only[STD,hc,cS,wY,qt,List.length_cons,List.length_nil,Int.toNat_zero,List.getD_cons_zero,U.toS,show (1:Int).toNat=1 from rfl,show (2:Int).toNat=2 from rfl,List.getD_cons_succ,hP,hL]
 simp[]
theorem wu{a b:Rat}(ha:sm 100000 a)(hb:sm 100000 b):(qK [.s (tQ a),.s (tQ b)]).run=some (0,[.s (tQ (a*b))]):=by
 rw[qmo]
 obtain⟨h1,h2⟩:=ha
 obtain⟨h3,h4⟩:=hb
 have hc:=qdV a b (by omega) (by omega) (by omega) (by omega)
 simp only[qn,qd] at h1 h2 h3 h4
 have l1:=jv a.num b.num
 have l3:=jv a.den b.den
 rw[qdR,qdR] at l3
 have hL:=qkd (a.num*b.num) (a.den*b.den) (by have:=Int.mul_pos (qqK a) (qqK b);omega) (by omega) (by omega)
 have e:Rat.divInt (a.num*b.num) ((a.den:Int)*(b.den:Int))=a*b:=by
  rw[Rat.mul_def',←Rat.divInt_ofNat];simp
 rw[e] at hL
 simp only[STD,hc,cS,wY,qt,List.length_cons,List.length_nil,U.toS,show (3:Int).toNat=3 from rfl,show (2:Int).toNat=2 from rfl,List.getD_cons_succ,List.getD_cons_zero,hL]
 simp[]
theorem qni{a b:Rat}(hb0:b≠0)(ha:sm 100000 a)(hb:sm 100000 b):(q7N [.s (tQ a),.s (tQ b)]).run=some (0,[.s (tQ (a/b))]):=by
 rw[qrS]
 obtain⟨h1,h2⟩:=ha
 obtain⟨h3,h4⟩:=hb
 have hc:=qdV a b (by omega) (by omega) (by omega) (by omega)
 simp only[qn,qd] at h1 h2 h3 h4
 have l1:=jv a.num b.den
 have l3:=jv a.den b.num
 rw[qdR] at l1 l3
 have hbn:b.num≠0:=fun h=>hb0 (Rat.num_eq_zero.1 h)
 have hL:=qkd (a.num*b.den) (a.den*b.num) (by have:=qqK a;exact Int.mul_ne_zero (by omega) hbn) (by omega) (by omega)
 have e:Rat.divInt (a.num*b.den) ((a.den:Int)*b.num)=a/b:=by
  rw[Rat.div_def,Rat.inv_def,←Rat.divInt_mul_divInt,Rat.num_divInt_den]
 rw[e] at hL
 simp only[STD,hc,cS,wY,qt,List.length_cons,List.length_nil,U.toS,Int.toNat_zero,show (4:Int).toNat=4 from rfl,List.getD_cons_succ,List.getD_cons_zero,hL]
 simp[]
theorem qgE{a b:Rat}(ha:sm 100000 a)(hb:sm 100000 b):(q0g [.s (tQ a),.s (tQ b)]).run=some (0,[.i (sgq (a-b))]):=by
 rw[qn7]
 obtain⟨h1,h2⟩:=ha
 obtain⟨h3,h4⟩:=hb
 have hc:=qdV a b (by omega) (by omega) (by omega) (by omega)
 simp only[qn,qd] at h1 h2 h3 h4
 have l1:=jv a.num b.den
 have l2:=jv b.num a.den
 rw[qdR] at l1 l2
 have hP:=qcd (a.num*b.den) (b.num*a.den) (by omega) (by omega)
 rw[←qyl] at hP
 simp only[STD,hc,cS,wY,qt,List.length_cons,List.length_nil,U.toS,Int.toNat_zero,show (1:Int).toNat=1 from rfl,List.getD_cons_succ,List.getD_cons_zero,hP]
 simp[]
theorem q2C{a:Rat}(ha:sm 100000 a):(zH [.s (tQ a)]).run=some (0,[.i (sgq a)]):=by
 rw[qkZ]
 obtain⟨h1,h2⟩:=ha
 have hP:=qcd a.num 0 (by unfold qn at h1;omega) (by decide)
 rw[Int.sub_zero,show tI 0=[48] from rfl] at hP
 simp only[STD,qo5 a (by omega) (by omega),hP]
 rfl
theorem qy9(K:Nat):sm (K+1) 0:=⟨by show 1≤K+1;omega,by show 1≤K+1;omega⟩
theorem q9S{a:Rat}(ha:sm 100000 a):(jO [.s (tQ a)]).run=some (0,[.s (tQ (-a))]):=by
 rw[ql0]
 have h:=q0b (a:=0) (b:=a) (qy9 99999) ha
 rw[show tQ 0=[48] from rfl,show (0:Rat)-a=-a by grind] at h
 simp only[STD,h]
def qd3(a b c:Rat):Int:=if 0≤sgq a*(sgq b*sgq c) then (if sgq a=0 then sgq b*sgq c else sgq a) else sgq a*sgq (a*a-b*b*c)
theorem q64(q:Rat):-1≤sgq q∧sgq q≤1:=by rcases qaR q with⟨_,e⟩|⟨_,e⟩|⟨_,e⟩<;>rw[e]<;>decide
theorem qyN{x y:Int}(hx:-1≤x∧x≤1)(hy:-1≤y∧y≤1):-1≤x*y∧x*y≤1:=by
 have:=qzN (A:=1) (B:=1) hx.1 hx.2 hy.1 hy.2
 omega
theorem qcn{x y:Int}(hx:-1≤x∧x≤1)(hy:-1≤y∧y≤1):uM .i64 x y=x*y:=q7T (by have:=qyN hx hy;omega)
theorem qqG{K L:Nat}{a b:Rat}(ha:sm K a)(hb:sm L b):sm (K+L) (a*b):=
 ⟨Nat.le_trans (qwh a b) (Nat.add_le_add ha.1 hb.1),Nat.le_trans (qw4 a b) (Nat.add_le_add ha.2 hb.2)⟩
theorem q01{K L:Nat}{a:Rat}(ha:sm K a)(h:K≤L):sm L a:=⟨Nat.le_trans ha.1 h,Nat.le_trans ha.2 h⟩
theorem qjm{a b c:Rat}(ha:sm 30000 a)(hb:sm 30000 b)(hc:sm 30000 c):(q1g [.s (tQ a),.s (tQ b),.s (tQ c)]).run=some (0,[.i (qd3 a b c)]):=by
 rw[qor]
 have ba:=q64 a
 have bb:=q64 b
 have bc:=q64 c
 have bd:=q64 (a*a-b*b*c)
 have h1:=wu (q01 ha (by omega)) (q01 ha (by omega))
 have h2:=wu (q01 hb (by omega)) (q01 hb (by omega))
 have hbb:=qqG hb hb
 have h3:=wu (a:=b*b) (b:=c) (q01 hbb (by omega)) (q01 hc (by omega))
 have h4:=qgE (a:=a*a) (b:=b*b*c) (q01 (qqG ha ha) (by omega)) (q01 (qqG hbb hc) (by omega))
 simp only[STD,q2C (q01 ha (show 30000≤100000 by omega)),q2C (q01 hb (show 30000≤100000 by omega)),q2C (q01 hc (show 30000≤100000 by omega)),
  qcn bb bc,qcn ba (qyN bb bc),h1,h2,h3,h4,qcn ba bd]
 unfold qd3
 split
 ·split<;>rfl
 ·rfl
end Go.Eng

namespace Go.Eng
def mv:List Int→Int
 | []=>0
 | x::l=>x+1000000000*mv l
def pB(n:Nat):Int:=1000000000^n
theorem q3R:pB 0=1:=rfl
theorem q8V(n:Nat):pB (n+1)=pB n*1000000000:=Int.pow_succ _ _
theorem q9h:∀n,0<pB n
 | 0=>by decide
 | n+1=>by rw[q8V];have:=q9h n;omega
theorem qzo(m n:Nat):pB (m+n)=pB m*pB n:=Int.pow_add _ _ _
theorem qah{m n:Nat}(h:m≤n):pB m≤pB n:=by
 obtain⟨k,rfl⟩:∃k,n=m+k:=⟨n-m,by omega⟩
 induction k with
 | zero=>simp
 | succ k ih=>
  have h1:=ih (by omega)
  rw[show m+(k+1)=(m+k)+1 by omega,q8V]
  have:=q9h (m+k)
  omega
def dgs(l:List Int):Prop:=∀x,x∈l→0≤x∧x<1000000000
theorem qsJ:∀(l:List Int) (j:Nat) (h:j<l.length) (y:Int),mv (l.set j y)=mv l+(y-l[j])*pB j
 | [],j,h,_=>by simp at h
 | x::l,0,_,y=>by simp only[List.set_cons_zero,mv,List.getElem_cons_zero,q3R];omega
 | x::l,j+1,h,y=>by
  have ih:=qsJ l j (by simpa using h) y
  simp only[List.set_cons_succ,mv,List.getElem_cons_succ,q8V]
  rw[ih]
  grind
theorem qu8:∀(l:List Int) (n:Nat),dgs l→(∀i,n≤i→l.getD i 0=0)→0≤mv l∧mv l<pB n
 | [],n,_,_=>⟨Int.le_refl _,q9h n⟩
 | x::l,0,hd,hz=>by
  have ih:=qu8 l 0 (fun y hy=>hd y (List.mem_cons_of_mem _ hy)) (fun i _=>by have:=hz (i+1) (by omega);simpa using this)
  have hx:x=0:=by simpa using hz 0 (by omega)
  rw[q3R] at ih ⊢
  simp only[mv];omega
 | x::l,n+1,hd,hz=>by
  have ih:=qu8 l n (fun y hy=>hd y (List.mem_cons_of_mem _ hy)) (fun i hi=>by have:=hz (i+1) (by omega);simpa using this)
  have hx:=hd x List.mem_cons_self
  rw[q8V]
  simp only[mv]
  generalize pB n=p at *
  omega
theorem qzH:∀(l:List Int) (j:Nat) (h:j<l.length),dgs l→l[j]≠0→pB j≤mv l
 | [],j,h,_,_=>by simp at h
 | x::l,0,_,hd,hx=>by
  have h1:=hd x List.mem_cons_self
  have h2:=(qu8 l l.length (fun y hy=>hd y (List.mem_cons_of_mem _ hy)) (fun i hi=>by simp[List.getD_eq_getElem?_getD,hi])).1
  simp only[List.getElem_cons_zero] at hx
  simp only[mv,q3R];omega
 | x::l,j+1,h,hd,hx=>by
  have ih:=qzH l j (by simpa using h) (fun y hy=>hd y (List.mem_cons_of_mem _ hy)) (by simpa using hx)
  have h1:=hd x List.mem_cons_self
  rw[q8V]
  simp only[mv];omega
theorem qsf:∀(s t:List Int),mv (s++t)=mv s+pB s.length*mv t
 | [],t=>by simp[mv,q3R]
 | x::s,t=>by
  simp only[List.cons_append,mv,List.length_cons,q8V]
  rw[qsf s t];grind
theorem qcl(n:Nat):mv (List.replicate n 0)=0:=by
 induction n with
 | zero=>rfl
 | succ n ih=>simp[List.replicate_succ,mv,ih]
theorem qad{l:List Int}{i:Nat}(h:i<l.length):mv (l.drop i)=l[i]+1000000000*mv (l.drop (i+1)):=by
 rw[List.drop_eq_getElem_cons h];rfl
theorem wQ{l:List Int}{n i:Nat}(hd:dgs l)(hz:∀i,n≤i→l.getD i 0=0)(hi:n≤i):mv (l.drop i)=0:=by
 have:=qu8 (l.drop i) 0 (fun x hx=>hd x (List.mem_of_mem_drop hx)) (fun j _=>by
  have:=hz (i+j) (by omega)
  simpa[List.getD_eq_getElem?_getD] using this)
 rw[q3R] at this
 omega
structure WOK (n:Nat) (l:List Int):Prop where
 len:l.length=232
 le:n≤232
 dig:dgs l
 z:∀i,n≤i→l.getD i 0=0
def nrm(n:Nat)(l:List Int):Prop:=n=0∨l.getD (n-1) 0≠0
theorem WOK.bd{n:Nat}{l:List Int}(h:WOK n l):0≤mv l∧mv l<pB n:=qu8 l n h.dig h.z
theorem WOK.lo{n:Nat}{l:List Int}(h:WOK n l)(hn:nrm n l)(h0:n≠0):pB (n-1)≤mv l:=by
 have h1:=h.le
 have h2:=h.len
 rcases hn with hn|hn
 ·exact absurd hn h0
 ·refine qzH l (n-1) (by omega) h.dig ?_
  rwa [j2 (by omega)] at hn
theorem qpE(N i:Nat):(List.replicate N (0:Int)).getD i 0=0:=by
 rw[List.getD_eq_getElem?_getD,List.getElem?_replicate];split<;>rfl
theorem qvv(N:Nat):dgs (List.replicate N 0):=fun x hx=>by
 have:=(List.mem_replicate.1 hx).2
 omega
theorem WOK.zero:WOK 0 (List.replicate 232 0):=
 ⟨List.length_replicate,by omega,qvv 232,fun i _=>qpE 232 i⟩
theorem WOK.get{n:Nat}{l:List Int}(h:WOK n l)(i:Nat):0≤l.getD i 0∧l.getD i 0<1000000000:=by
 rcases Nat.lt_or_ge i l.length with hi|hi
 ·rw[j2 hi];exact h.dig _ (List.getElem_mem hi)
 ·simp[List.getD_eq_getElem?_getD,hi]
theorem WOK.setW{n:Nat}{l:List Int}(h:WOK n l){j:Nat}{y:Int}(hj:j<232)(hy:0≤y∧y<1000000000):WOK (max n (j+1)) (l.set j y):=by
 have h1:=h.le
 refine⟨by simp[h.len],by omega,fun x hx=>?_,fun i hi=>?_⟩
 ·rcases List.mem_or_eq_of_mem_set hx with hx|rfl
  ·exact h.dig x hx
  ·exact hy
 ·have:=h.z i (by omega)
  rw[List.getD_eq_getElem?_getD,List.getElem?_set_ne (by omega),←List.getD_eq_getElem?_getD]
  exact this
theorem q3C(l:List Int)(i:Nat):cI (rI l) (i:Int) 0=l.getD i 0:=by rw[qxN,Int.toNat_natCast]
theorem qfS(l:List Int)(i:Nat)(v:Int):qbm (rI l) (i:Int) 0 [.i v]=rI (l.set i v):=by rw[qpT,Int.toNat_natCast]
theorem qi4{n:Nat}{l:List Int}(h:WOK n l)(b:Bool):∃m,(qz [.b b,.i (n:Int),.r (rI l)]).run=some (0,[.b b,.i ((m:Nat):Int),.r (rI l)])∧WOK m l∧nrm m l:=by
 rw[qdg]
 have h232:=h.le
 obtain⟨j,qs,h1,rfl,m,rfl,h3,h4⟩:=vU (S:=vD) (fun k ps=>ps=[.b b,.i (k:Int),.r (rI l)]∧WOK k l)
  (fun j qs=>j=0∧∃m:Nat,qs=[.b b,.i (m:Int),.r (rI l)]∧WOK m l∧nrm m l) (n:=n) (by omega) (fun k ps hk ⟨hps,hw⟩=>by
  subst hps
  rw[qbt]
  have hk2:=hw.le
  by_cases h0:k=0
  ·right
   refine⟨0,_,?_,rfl,k,rfl,hw,.inl h0⟩
   simp only[STD,h0]
   rfl
  ·have hs:qA .i64 (k:Int) 1=((k-1:Nat):Int):=by rw[yn (by omega)];omega
   have a1:(0:Int)<(k:Int):=by omega
   have a2:(0:Int)≤((k-1:Nat):Int)∧((k-1:Nat):Int)<232:=by omega
   by_cases hz:l.getD (k-1) 0=0
   ·left
    refine⟨k-1,[.b b,.i ((k-1:Nat):Int),.r (rI l)],by omega,?_,rfl,hw.len,by omega,hw.dig,fun i hi=>?_⟩
    ·simp only[STD,a1,hs,a2,q3C,hz,and_self]
    ·rcases Nat.eq_or_lt_of_le hi with e|e
     ·rw[←e];exact hz
     ·exact hw.z i (by omega)
   ·right
    refine⟨0,[.b b,.i (k:Int),.r (rI l)],?_,rfl,k,rfl,hw,.inr hz⟩
    simp only[STD,a1,hs,a2,q3C,hz,and_self]) (ps:=[.b b,.i (n:Int),.r (rI l)]) ⟨rfl,h⟩
 exact⟨m,by simp only[STD,h1],h3,h4⟩
theorem qzp(s:Int):∃q r:Int,s.tdiv 1000000000=q∧s=q*1000000000+r∧(0≤s→0≤r)∧(s≤0→r≤0)∧-1000000000<r∧r<1000000000:=by
 obtain⟨h1,h2,h3,h4⟩:=qiO s (show (1000000000:Int)≠0 by decide)
 refine⟨_,q4Q s 1000000000,rfl,by omega,h3,h4,by omega,by omega⟩
theorem qtH{f up rest:Int}{i n j:Nat}{l ly:List Int}{bx b2:Bool}{ny:Nat}{S:Int}(hj:((j:Nat):Int)=qh .i64 (i:Int) up)(hj2:j<232)(hw:WOK n l)(hin:i<233)
  (hS:S=if i<ny then l.getD j 0+rest+f*ly.getD i 0 else l.getD j 0+rest) (hr:-1000000000≤rest∧rest≤1000000000) (hfy:-999999999999999999≤f*ly.getD i 0∧f*ly.getD i 0≤999999999999999999) (hny:ny≤232)
  (hgo:i<ny∨rest≠0) :
  ∃q s:Int,S=q*1000000000+s∧0≤s∧s<1000000000 ∧
   (vr [.i f,.i up,.i rest,.i (i:Int),.b bx,.i (n:Int),.r (rI l),.b b2,.i (ny:Int),.r (rI ly)]).run=some (0,[.i f,.i up,.i q,.i ((i+1:Nat):Int),.b bx,.i ((max n (j+1):Nat):Int),.r (rI (l.set j s)),.b b2,.i (ny:Int),.r (rI ly)]):=by
 have hg:=hw.get j
 obtain⟨q,r,e1,e2,e3,e4,e5,e6⟩:=qzp S
 have hSb:-1000000000999999999≤S∧S≤1000000001999999998:=by rw[hS];split<;>omega
 have w1:jG .i64 S 1000000000=q:=by
  unfold jG
  rw[e1]
  unfold IntKind.wrap
  simp[IntKind.signed,IntKind.bits];omega
 have w2:uM .i64 q 1000000000=q*1000000000:=q7T (by omega)
 have w3:qA .i64 S (q*1000000000)=r:=by rw[yn (by omega)];omega
 have w4:qh .i64 (l.getD j 0) rest=l.getD j 0+rest:=zc (by omega)
 have w5:qh .i64 (i:Int) 1=((i+1:Nat):Int):=by rw[zc (by omega)];omega
 have w6:qh .i64 (j:Int) 1=((j+1:Nat):Int):=by rw[zc (by omega)];omega
 have w7:qd5 (n:Int) ((j+1:Nat):Int)=((max n (j+1):Nat):Int):=qoK _ _
 have a1:(0:Int)≤(j:Int)∧(j:Int)<232:=by omega
 have hw8:r<0→qh .i64 r 1000000000=r+1000000000:=fun _=>zc (by omega)
 have hw9:r<0→qA .i64 q 1=q-1:=fun _=>yn (by omega)
 rw[q5Y]
 by_cases hi:i<ny
 ·rw[if_pos hi] at hS
  have a2:(i:Int)<(ny:Int):=by omega
  have a3:(0:Int)≤(i:Int)∧(i:Int)<232:=by omega
  have w10:uM .i64 f (ly.getD i 0)=f*ly.getD i 0:=q7T (by omega)
  have w11:qh .i64 (l.getD j 0+rest) (f*ly.getD i 0)=S:=by rw[zc (by omega),hS]
  by_cases hneg:r<0
  ·refine⟨q-1,r+1000000000,by omega,by omega,by omega,?_⟩
   simp only[STD,a2,←hj,a1,a3,q3C,w4,w10,w11,w1,w2,w3,hneg,hw8 hneg,hw9 hneg,w5,w6,w7,qfS,and_self]
  ·refine⟨q,r,by omega,by omega,by omega,?_⟩
   simp only[STD,a2,←hj,a1,a3,q3C,w4,w10,w11,w1,w2,w3,hneg,w5,w6,w7,qfS,and_self]
 ·rw[if_neg hi] at hS
  have hr0:rest≠0:=hgo.resolve_left hi
  have a2:¬(i:Int)<(ny:Int):=by omega
  rw[←hS] at w4
  by_cases hneg:r<0
  ·refine⟨q-1,r+1000000000,by omega,by omega,by omega,?_⟩
   simp only[STD,a2,hr0,←hj,a1,q3C,w4,w1,w2,w3,hneg,hw8 hneg,hw9 hneg,w5,w6,w7,qfS,and_self]
  ·refine⟨q,r,by omega,by omega,by omega,?_⟩
   simp only[STD,a2,hr0,←hj,a1,q3C,w4,w1,w2,w3,hneg,w5,w6,w7,qfS,and_self]
theorem qlc{f:Int}{up nx ny:Nat}{lx ly:List Int}(hx:WOK nx lx)(hy:WOK ny ly)(hf:-999999999≤f∧f≤999999999)(hup:ny+up≤232){T:Int}(hT:T=mv lx+f*mv ly*pB up)(h0:0≤T)(h1:T<pB 232)(bx b2:Bool) :
  ∃(n:Nat) (l:List Int),(qG [.i f,.i (up:Int),.b bx,.i (nx:Int),.r (rI lx),.b b2,.i (ny:Int),.r (rI ly)]).run=some (0,[.b bx,.i (n:Int),.r (rI l),.b b2,.i (ny:Int),.r (rI ly)])∧WOK n l∧nrm n l∧mv l=T:=by
 rw[qg2]
 have hny:=hy.le
 obtain⟨j,qs,g1,rfl,n,l,rfl,g3,g4⟩:=vU (S:=vr) (fun k ps=>∃(i n:Nat) (rest:Int) (l:List Int),ps=[.i f,.i (up:Int),.i rest,.i (i:Int),.b bx,.i (n:Int),.r (rI l),.b b2,.i (ny:Int),.r (rI ly)] ∧
   i+k=300∧i≤232∧WOK n l∧-1000000000≤rest∧rest≤1000000000∧mv l+rest*pB (i+up)+f*mv (ly.drop i)*pB (i+up)=T)
  (fun j qs=>j=0∧∃(n:Nat) (l:List Int),qs=[.b bx,.i (n:Int),.r (rI l),.b b2,.i (ny:Int),.r (rI ly)]∧WOK n l∧mv l=T) (n:=300) (by omega) (fun k ps hk ⟨i,n,rest,l,hps,hik,hi,hw,hr1,hr2,hv⟩=>by
  subst hps
  have hg:=hy.get i
  have hfy:=qzN (A:=999999999) (B:=999999999) hf.1 hf.2 (show -(999999999:Int)≤ly.getD i 0 by omega) (show ly.getD i 0≤999999999 by omega)
  have hbd:=hw.bd
  have hn232:=hw.le
  by_cases hgo:i<ny∨rest≠0
  ·left
   have hj:i+up<232:=by
    rcases Nat.lt_or_ge i ny with h|h
    ·omega
    ·rcases Nat.lt_or_ge (i+up) 232 with h2|h2
     ·exact h2
     ·exfalso
      have hr0:=hgo.resolve_left (by omega)
      rw[wQ hy.dig hy.z h] at hv
      have hP:=qah h2
      have hlt:=qah hn232
      simp only[Int.mul_zero,Int.zero_mul,Int.add_zero] at hv
      generalize pB (i+up)=P at *
      rcases Int.lt_or_lt_of_ne hr0 with h3|h3
      ·have:rest*P≤-1*P:=Int.mul_le_mul_of_nonneg_right (by omega) (by have:=q9h 232;omega)
       omega
      ·have:1*P≤rest*P:=Int.mul_le_mul_of_nonneg_right (by omega) (by have:=q9h 232;omega)
       omega
   have hjw:(((i+up:Nat)):Int)=qh .i64 (i:Int) (up:Int):=by rw[zc (by omega)];omega
   obtain⟨q,s,s1,s2,s3,s4⟩:=qtH (bx:=bx) (b2:=b2) (f:=f) (ly:=ly) hjw hj hw (by omega) rfl ⟨hr1,hr2⟩ (by omega) hny hgo
   refine⟨k-1,_,by omega,s4,i+1,_,q,_,rfl,by omega,by omega,hw.setW hj ⟨s2,s3⟩,?_,?_,?_⟩
   ·have hgl:=hw.get (i+up)
    split at s1<;>omega
   ·have hgl:=hw.get (i+up)
    split at s1<;>omega
   ·have hjl:i+up<l.length:=by rw[hw.len];exact hj
    rw[qsJ l (i+up) hjl,←hv,show i+1+up=(i+up)+1 by omega,q8V]
    rw[j2 hjl] at s1
    have hil:i<ly.length:=by rw[hy.len];omega
    rw[qad hil]
    rw[j2 hil] at s1
    generalize pB (i+up)=P at *
    generalize l[i+up]=d at *
    by_cases hiny:i<ny
    ·rw[if_pos hiny] at s1
     generalize ly[i]=y at *
     generalize mv (ly.drop (i+1))=m at *
     grind
    ·rw[if_neg hiny] at s1
     have z1:ly[i]=0:=by rw[←j2 hil];exact hy.z i (by omega)
     rw[z1,wQ hy.dig hy.z (show ny≤i+1 by omega)]
     grind
  ·right
   have c1:¬i<ny:=fun h=>hgo (.inl h)
   have c2:rest=0:=Decidable.byContradiction fun h=>hgo (.inr h)
   refine⟨0,[.b bx,.i (n:Int),.r (rI l),.b b2,.i (ny:Int),.r (rI ly)],?_,rfl,n,l,rfl,hw,?_⟩
   ·rw[q5Y]
    have a2:¬(i:Int)<(ny:Int):=by omega
    simp only[STD,a2,c2]
   ·rw[wQ hy.dig hy.z (by omega),c2] at hv
    simp only[Int.mul_zero,Int.zero_mul,Int.add_zero] at hv
    exact hv) (ps:=[.i f,.i (up:Int),.i 0,.i 0,.b bx,.i (nx:Int),.r (rI lx),.b b2,.i (ny:Int),.r (rI ly)])
  ⟨0,nx,0,lx,rfl,by omega,by omega,hx,by omega,by omega,by simp[hT]⟩
 obtain⟨m,t1,t2,t3⟩:=qi4 g3 bx
 exact⟨m,l,by simp only[STD,g1,t1],t2,t3,g4⟩
end Go.Eng

namespace Go.Eng
theorem q9u(l:List Int)(j:Nat)(h:j≤l.length):mv l=mv (l.take j)+pB j*mv (l.drop j):=by
 have:=qsf (l.take j) (l.drop j)
 rw[List.take_append_drop,List.length_take,Nat.min_eq_left h] at this
 exact this
theorem qxc{l:List Int}(h:dgs l)(j:Nat):dgs (l.take j):=fun x hx=>h x (List.mem_of_mem_take hx)
theorem q7L{l:List Int}(h:dgs l)(j:Nat):0≤mv (l.take j)∧mv (l.take j)<pB j:=
 qu8 (l.take j) j (qxc h j) fun i hi=>by
  rw[List.getD_eq_getElem?_getD,List.getElem?_eq_none (by simp;omega)];rfl
theorem qjD{l:List Int}{i:Nat}(h:i<l.length):mv (l.take (i+1))=mv (l.take i)+l[i]*pB i:=by
 rw[List.take_succ_eq_append_getElem h,qsf,List.length_take,Nat.min_eq_left (by omega)]
 simp only[mv]
 grind
theorem WOK.mono{n m:Nat}{l:List Int}(h:WOK n l)(hm:n≤m)(h2:m≤232):WOK m l:=⟨h.len,h2,h.dig,fun i hi=>h.z i (by omega)⟩
theorem qhd{n:Nat}{l:List Int}(h:WOK n l)(hn:nrm n l):(n=0)=(mv l=0):=by
 apply propext
 constructor
 ·intro h0
  have:=h.bd
  rw[h0,q3R] at this;omega
 ·intro h0
  rcases Nat.eq_zero_or_pos n with h1|h1
  ·exact h1
  ·have:=h.lo hn (by omega)
   have:=q9h (n-1)
   omega
theorem qzV{n m:Nat}{l k:List Int}(h:WOK n l)(hn:nrm n l)(h2:WOK m k)(hle:mv l≤mv k):n≤m:=by
 rcases Nat.lt_or_ge m n with h3|h3
 ·exfalso
  have h4:=h.lo hn (by omega)
  have h5:=h2.bd.2
  have h6:=qah (show m≤n-1 by omega)
  omega
 ·exact h3
theorem qsq{nx ny:Nat}{lx ly:List Int}(hx:WOK nx lx)(hnx:nrm nx lx)(hy:WOK ny ly)(hny:nrm ny ly)(bx b2:Bool) :
  ∃r:Int,(zo [.b bx,.i (nx:Int),.r (rI lx),.b b2,.i (ny:Int),.r (rI ly)]).run=some (0,[.i r,.b bx,.i (nx:Int),.r (rI lx),.b b2,.i (ny:Int),.r (rI ly)])∧((0≤r)=(mv ly≤mv lx)):=by
 rw[qeP]
 have h1:=hx.le
 have h2:=hy.le
 by_cases hne:nx=ny
 ·subst hne
  have hs:qA .i64 (nx:Int) 1=(nx:Int)-1:=yn (by omega)
  obtain⟨j,qs,g1,g2⟩:=vU (S:=j7) (fun k ps=>ps=[.i ((k:Int)-1),.b bx,.i (nx:Int),.r (rI lx),.b b2,.i (nx:Int),.r (rI ly)]∧k≤nx∧mv (lx.drop k)=mv (ly.drop k))
   (fun j qs=>(j=0∧qs=[.b bx,.i (nx:Int),.r (rI lx),.b b2,.i (nx:Int),.r (rI ly)]∧mv lx=mv ly)∨(j=1∧∃r:Int,qs=[.i r,.b bx,.i (nx:Int),.r (rI lx),.b b2,.i (nx:Int),.r (rI ly)]∧((0≤r)=(mv ly≤mv lx)))) (n:=nx) (by omega) (fun k ps hk ⟨hps,hkn,hd⟩=>by
   subst hps
   rw[qd2]
   by_cases h0:k=0
   ·right
    refine⟨0,_,?_,.inl ⟨rfl,rfl,?_⟩⟩
    ·have a:¬(0:Int)≤(k:Int)-1:=by omega
     simp only[STD,a]
    ·rw[h0] at hd;simpa using hd
   ·obtain⟨i,rfl⟩:∃i,k=i+1:=⟨k-1,by omega⟩
    have e:(((i+1:Nat):Int)-1)=(i:Int):=by omega
    rw[e]
    have a1:(0:Int)≤(i:Int):=by omega
    have a2:(i:Int)<232:=by omega
    have gx:=hx.get i
    have gy:=hy.get i
    have hxl:i<lx.length:=by rw[hx.len];omega
    have hyl:i<ly.length:=by rw[hy.len];omega
    by_cases hc:lx.getD i 0=ly.getD i 0
    ·left
     refine⟨i,[.i ((i:Int)-1),.b bx,.i (nx:Int),.r (rI lx),.b b2,.i (nx:Int),.r (rI ly)],by omega,?_,rfl,by omega,?_⟩
     ·have w:qA .i64 (i:Int) 1=(i:Int)-1:=yn (by omega)
      simp only[STD,a1,a2,and_self,q3C,hc,w]
     ·rw[qad hxl,qad hyl,hd]
      rw[j2 hxl,j2 hyl] at hc
      rw[hc]
    ·right
     have w:qA .i64 (lx.getD i 0) (ly.getD i 0)=lx.getD i 0-ly.getD i 0:=yn (by omega)
     refine⟨1,[.i (lx.getD i 0-ly.getD i 0),.b bx,.i (nx:Int),.r (rI lx),.b b2,.i (nx:Int),.r (rI ly)],?_,.inr ⟨rfl,_,rfl,?_⟩⟩
     ·simp only[STD,a1,a2,and_self,q3C,hc,w]
     ·have sx:=q9u lx i (by omega)
      have sy:=q9u ly i (by omega)
      rw[qad hxl] at sx
      rw[qad hyl] at sy
      have tx:=q7L hx.dig i
      have ty:=q7L hy.dig i
      rw[j2 hxl,j2 hyl] at hc ⊢
      rw[hd] at sx
      have hp:=q9h i
      generalize pB i=P at *
      generalize lx[i]=u at *
      generalize ly[i]=v at *
      generalize mv (ly.drop (i+1))=w at *
      have e1:P*(u+1000000000*w)=P*u+P*(1000000000*w):=Int.mul_add _ _ _
      have e2:P*(v+1000000000*w)=P*v+P*(1000000000*w):=Int.mul_add _ _ _
      have e3:P*(u-v)=P*u-P*v:=Int.mul_sub _ _ _
      apply propext
      rcases Int.lt_or_lt_of_ne (show u-v≠0 by omega) with h|h
      ·have:P*(u-v)≤P*(-1):=Int.mul_le_mul_of_nonneg_left (by omega) (by omega)
       constructor
       ·intro;omega
       ·intro;omega
      ·have:P*1≤P*(u-v):=Int.mul_le_mul_of_nonneg_left (by omega) (by omega)
       constructor
       ·intro;omega
       ·intro;omega) (ps:=[.i ((nx:Int)-1),.b bx,.i (nx:Int),.r (rI lx),.b b2,.i (nx:Int),.r (rI ly)])
   ⟨rfl,Nat.le_refl _,by rw[wQ hx.dig hx.z (Nat.le_refl _),wQ hy.dig hy.z (Nat.le_refl _)]⟩
  rcases g2 with⟨rfl,rfl,g2⟩|⟨rfl,r,rfl,g2⟩
  ·refine⟨0,?_,?_⟩
   ·simp only[STD,hs,g1,qv g1]
   ·apply propext;simp;omega
  ·refine⟨r,?_,g2⟩
   simp only[STD,hs,g1,qv g1,show ¬(1=0) by omega]
 ·have hs:qA .i64 (nx:Int) (ny:Int)=(nx:Int)-(ny:Int):=yn (by omega)
  refine⟨(nx:Int)-(ny:Int),?_,?_⟩
  ·have a:¬(nx:Int)=(ny:Int):=by omega
   simp only[STD,a,hs]
  ·apply propext
   have b1:=hx.bd
   have b2:=hy.bd
   rcases Nat.lt_or_gt_of_ne hne with h|h
   ·have:=hy.lo hny (by omega)
    have:=qah (show nx≤ny-1 by omega)
    constructor
    ·intro;omega
    ·intro;omega
   ·have:=hx.lo hnx (by omega)
    have:=qah (show ny≤nx-1 by omega)
    constructor
    ·intro;omega
    ·intro;omega
def sv(b:Bool)(l:List Int):Int:=if b then -mv l else mv l
theorem qxE{nx ny:Nat}{lx ly:List Int}(hx:WOK nx lx)(hnx:nrm nx lx)(hy:WOK ny ly)(hny:nrm ny ly)(hb:mv lx+mv ly<pB 232)(bx b2:Bool) :
  ∃(b:Bool) (n:Nat) (l:List Int),(zJ [.b bx,.i (nx:Int),.r (rI lx),.b b2,.i (ny:Int),.r (rI ly)]).run=some (0,[.b b,.i (n:Int),.r (rI l),.b b2,.i (ny:Int),.r (rI ly)])∧WOK n l∧nrm n l∧sv b l=sv bx lx+sv b2 ly:=by
 rw[qgN]
 have h1:=hx.bd
 have h2:=hy.bd
 have l1:=hx.le
 have l2:=hy.le
 by_cases hs:bx=b2
 ·subst hs
  obtain⟨n,l,g1,g2,g3,g4⟩:=qlc (f:=1) (up:=0) hx hy (by omega) (by omega) (T:=mv lx+mv ly) (by rw[q3R];omega) (by omega) hb bx bx
  refine⟨bx,n,l,?_,g2,g3,?_⟩
  ·simp only[STD,show ((0:Nat):Int)=0 from rfl] at g1 ⊢
   simp only[STD,g1]
  ·unfold sv;rw[g4];cases bx<;>simp<;>omega
 ·obtain⟨r,r1,r2⟩:=qsq hx hnx hy hny bx b2
  by_cases hr:mv ly≤mv lx
  ·have hr':0≤r:=by rw[r2];exact hr
   obtain⟨n,l,g1,g2,g3,g4⟩:=qlc (f:=-1) (up:=0) hx hy (by omega) (by omega) (T:=mv lx-mv ly) (by rw[q3R];omega) (by omega) (by omega) bx b2
   refine⟨bx,n,l,?_,g2,g3,?_⟩
   ·simp only[show ((0:Nat):Int)=0 from rfl] at g1
    simp only[STD,hs,r1,hr',g1]
   ·unfold sv;rw[g4];cases bx<;>cases b2<;>simp_all<;>omega
  ·have hr':¬0≤r:=by rw[r2];exact hr
   obtain⟨n,l,g1,g2,g3,g4⟩:=qlc (f:=-1) (up:=0) hy hx (by omega) (by omega) (T:=mv ly-mv lx) (by rw[q3R];omega) (by omega) (by omega) b2 bx
   refine⟨b2,n,l,?_,g2,g3,?_⟩
   ·simp only[show ((0:Nat):Int)=0 from rfl] at g1
    simp only[STD,hs,r1,hr',g1]
   ·unfold sv;rw[g4];cases bx<;>cases b2<;>simp_all<;>omega
theorem qvP{x y:Int}{m n:Nat}(h0:0≤x)(h1:x<pB m)(h2:0≤y)(h3:y≤pB n):x*y<pB (m+n)∨y=0:=by
 rcases Int.lt_or_eq_of_le h2 with h|h
 ·left
  rw[qzo]
  have e1:x*y<pB m*y:=Int.mul_lt_mul_of_pos_right h1 h
  have e2:pB m*y≤pB m*pB n:=Int.mul_le_mul_of_nonneg_left h3 (by omega)
  omega
 ·exact .inr h.symm
theorem qyH{nx ny:Nat}{lx ly:List Int}(hx:WOK nx lx)(hy:WOK ny ly)(hb:nx+ny≤232)(bx b2:Bool) :
  ∃(n:Nat) (l:List Int),(ud [.b bx,.i (nx:Int),.r (rI lx),.b b2,.i (ny:Int),.r (rI ly)]).run=some (0,[.b bx,.i (nx:Int),.r (rI lx),.b b2,.i (ny:Int),.r (rI ly),.b (!(Go.Eng.beq bx b2)),.i (n:Int),.r (rI l)])∧WOK n l∧nrm n l∧mv l=mv lx*mv ly:=by
 rw[qfN]
 have hbx:=hx.bd
 have e0:q2n 232 [.i 0]=rI (List.replicate 232 0):=qfZ 232 0
 obtain⟨j,qs,g1,rfl,n,l,rfl,g2,g3,g4⟩:=vU (S:=jy) (fun k ps=>∃(i n:Nat) (l:List Int),ps=[.i (ny:Int),.i (i:Int),.b bx,.i (nx:Int),.r (rI lx),.b b2,.i (ny:Int),.r (rI ly),.b (!(Go.Eng.beq bx b2)),.i (n:Int),.r (rI l)] ∧
   i+k=ny∧WOK n l∧nrm n l∧mv l=mv lx*mv (ly.take i))
  (fun j qs=>j=0∧∃(n:Nat) (l:List Int),qs=[.b bx,.i (nx:Int),.r (rI lx),.b b2,.i (ny:Int),.r (rI ly),.b (!(Go.Eng.beq bx b2)),.i (n:Int),.r (rI l)]∧WOK n l∧nrm n l∧mv l=mv lx*mv ly) (n:=ny) (by omega) (fun k ps hk ⟨i,n,l,hps,hik,hw,hn,hv⟩=>by
  subst hps
  rw[qdH]
  by_cases hi:i<ny
  ·left
   have hil:i<ly.length:=by rw[hy.len];omega
   have gy:=hy.get i
   have tb:=q7L hy.dig i
   have tb2:=q7L hy.dig (i+1)
   have hT:mv lx*mv (ly.take (i+1))=mv l+ly.getD i 0*mv lx*pB i:=by
    rw[qjD hil,hv,j2 hil];grind
   have hlt:mv lx*mv (ly.take (i+1))<pB 232:=by
    rcases qvP (n:=i+1) hbx.1 hbx.2 tb2.1 (by omega) with h|h
    ·exact Int.lt_of_lt_of_le h (qah (by omega))
    ·rw[h,Int.mul_zero];exact q9h _
   obtain⟨n',l',c1,c2,c3,c4⟩:=qlc (f:=ly.getD i 0) (up:=i) hw hx (by omega) (by omega) hT (Int.mul_nonneg hbx.1 tb2.1) hlt (!(Go.Eng.beq bx b2)) bx
   have w:qh .i64 (i:Int) 1=((i+1:Nat):Int):=by rw[zc (by omega)];omega
   refine⟨k-1,_,by omega,?_,i+1,n',l',rfl,by omega,c2,c3,c4⟩
   have a1:(i:Int)<(ny:Int):=by omega
   have a2:(0:Int)≤(i:Int)∧(i:Int)<232:=by omega
   simp only[STD,a1,a2,and_self,q3C,c1,w]
  ·right
   have hi2:i=ny:=by omega
   have a1:¬(i:Int)<(ny:Int):=by omega
   refine⟨0,[.b bx,.i (nx:Int),.r (rI lx),.b b2,.i (ny:Int),.r (rI ly),.b (!(Go.Eng.beq bx b2)),.i (n:Int),.r (rI l)],?_,rfl,n,l,rfl,hw,hn,?_⟩
   ·simp only[STD,a1]
   ·have:=q9u ly ny (by rw[hy.len];exact hy.le)
    rw[wQ hy.dig hy.z (Nat.le_refl _),Int.mul_zero,Int.add_zero] at this
    rw[hv,hi2,←this])
  (ps:=[.i (ny:Int),.i 0,.b bx,.i (nx:Int),.r (rI lx),.b b2,.i (ny:Int),.r (rI ly),.b (!(Go.Eng.beq bx b2)),.i 0,.r (rI (List.replicate 232 0))])
  ⟨0,0,_,rfl,by omega,WOK.zero,.inl rfl,by rw[qcl];simp[mv]⟩
 refine⟨n,l,?_,g2,g3,g4⟩
 simp only[e0]
 simp only[STD,g1]
theorem qtW{nx ny:Nat}{lx ly:List Int}(hx:WOK nx lx)(hnx:nrm nx lx)(hy:WOK ny ly)(hny:nrm ny ly)(h0:ny≠0)(hle:mv ly≤mv lx)(hlt:mv lx<pB (ny+1))(hn231:ny≤231)(bx b2:Bool) :
  ∃k:Int,(jp [.b bx,.i (nx:Int),.r (rI lx),.b b2,.i (ny:Int),.r (rI ly)]).run=some (0,[.i k,.b bx,.i (nx:Int),.r (rI lx),.b b2,.i (ny:Int),.r (rI ly)])∧1≤k∧k≤999999999∧k*mv ly≤mv lx:=by
 rw[qj7]
 obtain⟨m,rfl⟩:∃m,ny=m+1:=⟨ny-1,by omega⟩
 have hxl:=hx.len
 have hyl:=hy.len
 have hnx1:m+1≤nx:=qzV hy hny hx hle
 have hnx2:nx≤m+2:=by
  rcases Nat.lt_or_ge (m+2) nx with h|h
  ·exfalso
   have h1:=hx.lo hnx (by omega)
   have h2:=qah (show m+1+1≤nx-1 by omega)
   omega
  ·exact h
 have gx1:=hx.get m
 have gx2:=hx.get (m+1)
 have gy:=hy.get m
 have sx:=q9u lx m (by omega)
 have sy:=q9u ly m (by omega)
 rw[qad (show m<lx.length by omega),qad (show m+1<lx.length by omega),wQ hx.dig hx.z (show nx≤m+1+1 by omega)] at sx
 rw[qad (show m<ly.length by omega),wQ hy.dig hy.z (Nat.le_refl _)] at sy
 have tx:=q7L hx.dig m
 have ty:=q7L hy.dig m
 have hyn:ly.getD m 0≠0:=by
  rcases hny with h|h
  ·omega
  ·simpa using h
 have w1:qA .i64 ((m+1:Nat):Int) 1=(m:Int):=by rw[yn (by omega)];omega
 have c1:¬((m+1:Nat):Int)<0:=by omega
 have c2:¬(nx:Int)≤(m:Int):=by omega
 have c3:¬(m:Int)<0:=by omega
 have c4:¬((m+1:Nat):Int)≤(m:Int):=by omega
 have c5:(0:Int)≤(m:Int)∧(m:Int)<232:=by omega
 have c6:(0:Int)≤((m+1:Nat):Int)∧((m+1:Nat):Int)<232:=by omega
 have gex:lx[m]'(by omega)=lx.getD m 0:=(j2 (by omega)).symm
 have gex1:lx[m+1]'(by omega)=lx.getD (m+1) 0:=(j2 (by omega)).symm
 have gey:ly[m]'(by omega)=ly.getD m 0:=(j2 (by omega)).symm
 rw[gex,gex1] at sx
 rw[gey] at sy
 have hp:=q9h m
 have key:∀a b:Int,a=lx.getD m 0+1000000000*lx.getD (m+1) 0→0<b→mv ly≤b*pB m→∀k,k=a/b→k*mv ly≤mv lx∧q8w k 999999999*mv ly≤mv lx:=by
  intro a b ha hb hbY k hk
  have hk0:0≤k:=by rw[hk];exact Int.ediv_nonneg (by omega) (by omega)
  have hkb:k*b≤a:=by rw[hk];exact Int.ediv_mul_le a (by omega)
  have hY:=(hy.bd).1
  have f1:k*mv ly≤k*(b*pB m):=Int.mul_le_mul_of_nonneg_left hbY hk0
  have f2:k*b*pB m≤a*pB m:=Int.mul_le_mul_of_nonneg_right hkb (by omega)
  have f3:k*(b*pB m)=k*b*pB m:=(Int.mul_assoc _ _ _).symm
  have f4:a*pB m=pB m*(lx.getD m 0+1000000000*(lx.getD (m+1) 0+1000000000*0)):=by rw[ha];grind
  have f5:k*mv ly≤mv lx:=by omega
  refine⟨f5,?_⟩
  have:q8w k 999999999≤k:=by unfold q8w;split<;>omega
  have:=Int.mul_le_mul_of_nonneg_right this hY
  omega
 have wq:∀a b:Int,0≤a→a<1000000000000000000→0<b→jG .i64 a b=a/b:=by
  intro a b h1 h2 h3
  unfold jG
  rw[Int.tdiv_eq_ediv_of_nonneg h1]
  have q1:0≤a/b:=Int.ediv_nonneg h1 (by omega)
  have q2:a/b≤a:=Int.ediv_le_self _ h1
  generalize a/b=q at *
  unfold IntKind.wrap
  simp[IntKind.signed,IntKind.bits];omega
 have fin:∀k:Int,(0<k→k*mv ly≤mv lx∧q8w k 999999999*mv ly≤mv lx)→∃k':Int,(if 0<k then q8w k 999999999 else 1)=k'∧1≤k'∧k'≤999999999∧k'*mv ly≤mv lx:=by
  intro k hk
  by_cases h:0<k
  ·rw[if_pos h]
   refine⟨_,rfl,?_,?_,(hk h).2⟩
   ·unfold q8w;split<;>omega
   ·unfold q8w;split<;>omega
  ·rw[if_neg h];exact⟨1,rfl,by omega,by omega,by omega⟩
 by_cases hcase:nx≤m+1
 ·have c7:(nx:Int)≤((m+1:Nat):Int):=by omega
  have z1:lx.getD (m+1) 0=0:=hx.z _ (by omega)
  have wa:qh .i64 0 (lx.getD m 0)=lx.getD m 0:=by rw[zc (by omega)];omega
  by_cases hm:m=0
  ·subst hm
   have c8:¬(1:Int)<((0+1:Nat):Int):=by omega
   have hq:=wq (lx.getD 0 0) (ly.getD 0 0) (by omega) (by omega) (by omega)
   have hbY:mv ly≤ly.getD 0 0*pB 0:=by rw[q3R] at sy ty ⊢;omega
   obtain⟨k',f1,f2,f3,f4⟩:=fin (lx.getD 0 0/ly.getD 0 0) (fun _=>key _ _ (by rw[z1];omega) (by omega) hbY _ rfl)
   refine⟨k',?_,f2,f3,f4⟩
   rw[←f1]
   simp only[STD,c1,w1,c2,c3,c4,c5,c6,c7,c8,and_self,q3C,wa,hyn,hq]
   split<;>rfl
  ·have c8:(1:Int)<((m+1:Nat):Int):=by omega
   have wb:qh .i64 (ly.getD m 0) 1=ly.getD m 0+1:=zc (by omega)
   have hq:=wq (lx.getD m 0) (ly.getD m 0+1) (by omega) (by omega) (by omega)
   have hbY:mv ly≤(ly.getD m 0+1)*pB m:=by
    have:(ly.getD m 0+1)*pB m=pB m*(ly.getD m 0+1000000000*0)+pB m:=by grind
    omega
   obtain⟨k',f1,f2,f3,f4⟩:=fin (lx.getD m 0/(ly.getD m 0+1)) (fun _=>key _ _ (by rw[z1];omega) (by omega) hbY _ rfl)
   refine⟨k',?_,f2,f3,f4⟩
   rw[←f1]
   have hne:¬ly.getD m 0+1=0:=by omega
   simp only[STD,c1,w1,c2,c3,c4,c5,c6,c7,c8,and_self,q3C,wa,wb,hne,hq]
   split<;>rfl
 ·have c7:¬(nx:Int)≤((m+1:Nat):Int):=by omega
  have wm:uM .i64 (lx.getD (m+1) 0) 1000000000=lx.getD (m+1) 0*1000000000:=q7T (by omega)
  have wa:qh .i64 (lx.getD (m+1) 0*1000000000) (lx.getD m 0)=lx.getD (m+1) 0*1000000000+lx.getD m 0:=zc (by omega)
  by_cases hm:m=0
  ·subst hm
   have c8:¬(1:Int)<((0+1:Nat):Int):=by omega
   have hq:=wq (lx.getD (0+1) 0*1000000000+lx.getD 0 0) (ly.getD 0 0) (by omega) (by omega) (by omega)
   have hbY:mv ly≤ly.getD 0 0*pB 0:=by rw[q3R] at sy ty ⊢;omega
   obtain⟨k',f1,f2,f3,f4⟩:=fin ((lx.getD (0+1) 0*1000000000+lx.getD 0 0)/ly.getD 0 0) (fun _=>key _ _ (by omega) (by omega) hbY _ rfl)
   refine⟨k',?_,f2,f3,f4⟩
   rw[←f1]
   simp only[STD,c1,w1,c2,c3,c4,c5,c6,c7,c8,and_self,q3C,wm,wa,hyn,hq]
   split<;>rfl
  ·have c8:(1:Int)<((m+1:Nat):Int):=by omega
   have wb:qh .i64 (ly.getD m 0) 1=ly.getD m 0+1:=zc (by omega)
   have hq:=wq (lx.getD (m+1) 0*1000000000+lx.getD m 0) (ly.getD m 0+1) (by omega) (by omega) (by omega)
   have hbY:mv ly≤(ly.getD m 0+1)*pB m:=by
    have:(ly.getD m 0+1)*pB m=pB m*(ly.getD m 0+1000000000*0)+pB m:=by grind
    omega
   obtain⟨k',f1,f2,f3,f4⟩:=fin ((lx.getD (m+1) 0*1000000000+lx.getD m 0)/(ly.getD m 0+1)) (fun _=>key _ _ (by omega) (by omega) hbY _ rfl)
   refine⟨k',?_,f2,f3,f4⟩
   rw[←f1]
   have hne:¬ly.getD m 0+1=0:=by omega
   simp only[STD,c1,w1,c2,c3,c4,c5,c6,c7,c8,and_self,q3C,wm,wa,wb,hne,hq]
   split<;>rfl
end Go.Eng

