/- Texts of the proof, merged: what the code computes, and plain laws. No statement stands here. -/
import Derived.OpenShut
import Derived.Deep.Slices
import Derived.SizedLaws
import Derived.Below
import Derived.Lib.LaidTab
import Derived.Test.YtehgceikghodkaaGreatDoorU3
namespace Go.Eng
theorem q8M(x0:List UInt8)(x1:List UInt8):wd [.s x0,.s x1]=(let r0:TR:=(vb [(.s x0),(.s x1)])
 .br (okR r0) (.br (ile 0 (gI r0 0)) (.br (q4D (gI r0 0) (qm x0)) (.br (q4D 0 (gI r0 0)) (.br (q4D (qm x0) (qm x0)) (.br (q4D (qh .i64 (gI r0 0) (qm x1)) (qm x0)) (.leaf (0,[(.s (qaA x0 0 (gI r0 0))),(.s (qaA x0 (qh .i64 (gI r0 0) (qm x1)) (qm x0))),(.b true)])) .fail) .fail) .fail) .fail) (.leaf (0,[(.s x0),(.s []),(.b false)]))) .fail):=by kernel_rfl
theorem qpN(x0:List UInt8)(x1:List UInt8):q4U [.s x0,.s x1]=(let r0:TR:=(wd [(.s x0),(.s x1)])
 .br (okR r0) (.leaf (0,[(.s (gS r0 0)),(.s (gS r0 1)),(.b (gB r0 2))])) .fail):=by kernel_rfl
theorem qtA(x0:List UInt8):qK [.s x0]=(let r0:TR:=(q4U [(.s x0),(.s [47])])
 .br (okR r0) (.br (not (gB r0 2)) (.leaf (0,[(.s (gS r0 0)),(.s [49]),(.b (gB r0 2))])) (.leaf (0,[(.s (gS r0 0)),(.s (gS r0 1)),(.b (gB r0 2))]))) .fail):=by kernel_rfl
theorem q4F(x0:List UInt8)(x1:List UInt8):qD [.s x0,.s x1]=(.br (ile (qm x1) (qm x0)) (.br (q4D (qm x1) (qm x0)) (.br (q4D 0 (qm x1)) (.leaf (0,[(.b (seq (qaA x0 0 (qm x1)) x1))])) .fail) .fail) (.leaf (0,[(.b false)]))):=by kernel_rfl
theorem q4C(x0:List UInt8)(x1:List UInt8):z8 [.s x0,.s x1]=(let r0:TR:=(qD [(.s x0),(.s x1)])
 .br (okR r0) (.br (gB r0 0) (.br (q4D (qm x0) (qm x0)) (.br (q4D (qm x1) (qm x0)) (.leaf (0,[(.s (qaA x0 (qm x1) (qm x0)))])) .fail) .fail) (.leaf (0,[(.s x0)]))) .fail):=by kernel_rfl
theorem qfh(x0:List UInt8)(x1:List UInt8):qM [.s x0,.s x1]=(let r0:TR:=(z8 [(.s x0),(.s x1)])
 .br (okR r0) (.leaf (0,[(.s (gS r0 0))])) .fail):=by kernel_rfl
theorem qqc(x0:List UInt8):qJ [.s x0]=(let r0:TR:=(qM [(.s x0),(.s [45])])
 .br (okR r0) (.br (seq (gS r0 0) []) (.leaf (0,[(.i 3)])) (let r1:TR:=(q6l [(.s (gS r0 0)),(.s [48,49,50,51,52,53,54,55,56,57])])
 .br (okR r1) (.br (not (seq (gS r1 0) [])) (.leaf (0,[(.i 3)])) (.br (inb 0 (qm (gS r0 0))) (.br (ieq (sat (gS r0 0) 0) 48) (.br (not (seq x0 [48])) (.leaf (0,[(.i 3)])) (.br (ilt 1024 (qm (gS r0 0))) (.leaf (0,[(.i 11)])) (.leaf (0,[(.i 0)])))) (.br (ilt 1024 (qm (gS r0 0))) (.leaf (0,[(.i 11)])) (.leaf (0,[(.i 0)])))) .fail)) .fail)) .fail):=by kernel_rfl
theorem qgP(y0:R)(y1:Int)(y2:Int):q5l [.r y0,.i y1,.i y2]=(.br (ilt y2 y1) (.br (inb y2 (qj y0)) (let r0:TR:=(qJ [(.s (cS y0 y2 0))])
 .br (okR r0) (.br (ine (gI r0 0) 0) (.leaf (2,[(.i (gI r0 0))])) (.leaf (0,[(.r y0),(.i y1),(.i (qh .i64 y2 1))]))) .fail) .fail) (.leaf (1,[]))):=by kernel_rfl
theorem qtf(x0:R):zG [.r x0]=(let r0:TR:=(qg q5l [(.r x0),(.i (qj x0)),(.i 0)])
 .br (okR r0) (.br (jIs r0 0) (.leaf (0,[(.i 0)])) (.leaf (0,[(.i (gI r0 0))]))) .fail):=by kernel_rfl
theorem qre(x0:List UInt8):yk [.s x0]=(.br (seq x0 [48]) (.leaf (0,[(.i 0)])) (.br (inb 0 (qm x0)) (.br (ieq (sat x0 0) 45) (.leaf (0,[(.i (-1))])) (.leaf (0,[(.i 1)]))) .fail)):=by kernel_rfl
theorem qpO(x0:List UInt8)(x1:List UInt8):q50 [.s x0,.s x1]=(.br (ine (qm x0) (qm x1)) (.br (ilt (qm x0) (qm x1)) (.leaf (0,[(.i (-1))])) (.leaf (0,[(.i 1)]))) (let r0:TR:=(q32 [(.s x0),(.s x1)])
 .br (okR r0) (.leaf (0,[(.i (gI r0 0))])) .fail)):=by kernel_rfl
theorem qmo(x0:List UInt8)(x1:List UInt8):q1W [.s x0,.s x1]=(let r0:TR:=(zG [(.r [[(.s x0)],[(.s x1)]])])
 .br (okR r0) (.br (ine (gI r0 0) 0) (.leaf (0,[(.i 0),(.i (gI r0 0))])) (let r1:TR:=(yk [(.s x0)])
 .br (okR r1) (let r2:TR:=(yk [(.s x1)])
 .br (okR r2) (.br (ilt (gI r1 0) (gI r2 0)) (.leaf (0,[(.i (-1)),(.i 0)])) (.br (okR r2) (.br (ilt (gI r2 0) (gI r1 0)) (.leaf (0,[(.i 1),(.i 0)])) (let r3:TR:=(qM [(.s x0),(.s [45])])
 .br (okR r3) (let r4:TR:=(qM [(.s x1),(.s [45])])
 .br (okR r4) (let r5:TR:=(q50 [(.s (gS r3 0)),(.s (gS r4 0))])
 .br (okR r5) (.leaf (0,[(.i (u7 .i64 (gI r1 0) (gI r5 0))),(.i 0)])) .fail) .fail) .fail)) .fail)) .fail) .fail)) .fail):=by kernel_rfl
theorem qdh(y0:Bool)(y1:Int)(y2:R):vK [.b y0,.i y1,.r y2]=(.br (ilt 0 y1) (.br (inb (qv .i64 y1 1) 232) (.br (inb (qv .i64 y1 1) 232) (.br (ieq (cI y2 (qv .i64 y1 1) 0) 0) (.leaf (0,[(.b y0),(.i (qv .i64 y1 1)),(.r y2)])) (.leaf (1,[(.b y0),(.i y1),(.r y2)]))) .fail) .fail) (.leaf (1,[(.b y0),(.i y1),(.r y2)]))):=by kernel_rfl
theorem qfA(x0:Bool)(x1:Int)(x2:R):qx [.b x0,.i x1,.r x2]=(let r0:TR:=(qg vK [(.b x0),(.i x1),(.r x2)])
 .br (okR r0) (.leaf (0,[(.b (gB r0 0)),(.i (gI r0 1)),(.r (gR r0 2))])) .fail):=by kernel_rfl
theorem qnX(y0:List UInt8)(y1:Bool)(y2:Int)(y3:R):q3L [.s y0,.b y1,.i y2,.r y3]=(.br (ilt 0 (qm y0)) (.br (q4D (qm y0) (qm y0)) (.br (q4D (qeF 0 (qv .i64 (qm y0) 9)) (qm y0)) (let r0:TR:=(ve [(.s (qaA y0 (qeF 0 (qv .i64 (qm y0) 9)) (qm y0)))])
 .br (okR r0) (.br (inb y2 232) (.br (inb y2 232) (.br (q4D (qeF 0 (qv .i64 (qm y0) 9)) (qm y0)) (.br (q4D 0 (qeF 0 (qv .i64 (qm y0) 9))) (.leaf (0,[(.s (qaA y0 0 (qeF 0 (qv .i64 (qm y0) 9)))),(.b y1),(.i (qh .i64 y2 1)),(.r (qcA y3 y2 0 [(.i (gI r0 0))]))])) .fail) .fail) .fail) .fail) .fail) .fail) .fail) (.leaf (1,[(.b y1),(.i y2),(.r y3)]))):=by kernel_rfl
theorem qsp(x0:List UInt8):zp [.s x0]=(.br (inb 0 (qm x0)) (let r0:TR:=(qM [(.s x0),(.s [45])])
 .br (okR r0) (let r1:TR:=(qg q3L [(.s (gS r0 0)),(.b (ieq (sat x0 0) 45)),(.i 0),(.r (q3i 232 [(.i 0)]))])
 .br (okR r1) (let r2:TR:=(qx [(.b (gB r1 0)),(.i (gI r1 1)),(.r (gR r1 2))])
 .br (okR r2) (.leaf (0,[(.b (gB r2 0)),(.i (gI r2 1)),(.r (gR r2 2))])) .fail) .fail) .fail) .fail):=by kernel_rfl
theorem qvq(x0:Int):zi [.i x0]=(.br (okR (q3y [(.i x0)])) (.leaf (0,[(.s (gS (q3y [(.i x0)]) 0))])) .fail):=by kernel_rfl
theorem qev(y0:Int)(y1:Bool)(y2:Int)(y3:R)(y4:Bool)(y5:Int)(y6:R):je [.i y0,.b y1,.i y2,.r y3,.b y4,.i y5,.r y6]=(.br (ile 0 y0) (.br (inb y0 232) (.br (inb y0 232) (.br (inb y0 232) (.br (inb y0 232) (.br (ine (cI y3 y0 0) (cI y6 y0 0)) (.br (inb y0 232) (.br (inb y0 232) (.br (inb y0 232) (.br (inb y0 232) (.leaf (2,[(.i (qv .i64 (cI y3 y0 0) (cI y6 y0 0))),(.b y1),(.i y2),(.r y3),(.b y4),(.i y5),(.r y6)])) .fail) .fail) .fail) .fail) (.leaf (0,[(.i (qv .i64 y0 1)),(.b y1),(.i y2),(.r y3),(.b y4),(.i y5),(.r y6)]))) .fail) .fail) .fail) .fail) (.leaf (1,[(.b y1),(.i y2),(.r y3),(.b y4),(.i y5),(.r y6)]))):=by kernel_rfl
theorem qgt(x0:Bool)(x1:Int)(x2:R)(x3:Bool)(x4:Int)(x5:R):zt [.b x0,.i x1,.r x2,.b x3,.i x4,.r x5]=(.br (ine x1 x4) (.leaf (0,[(.i (qv .i64 x1 x4)),(.b x0),(.i x1),(.r x2),(.b x3),(.i x4),(.r x5)])) (let r0:TR:=(qg je [(.i (qv .i64 x1 1)),(.b x0),(.i x1),(.r x2),(.b x3),(.i x4),(.r x5)])
 .br (okR r0) (.br (jIs r0 0) (.leaf (0,[(.i 0),(.b (gB r0 0)),(.i (gI r0 1)),(.r (gR r0 2)),(.b (gB r0 3)),(.i (gI r0 4)),(.r (gR r0 5))])) (.leaf (0,[(.i (gI r0 0)),(.b (gB r0 1)),(.i (gI r0 2)),(.r (gR r0 3)),(.b (gB r0 4)),(.i (gI r0 5)),(.r (gR r0 6))]))) .fail)):=by kernel_rfl
theorem ql9(x0:Bool)(x1:Int)(x2:R)(x3:Bool)(x4:Int)(x5:R):jK [.b x0,.i x1,.r x2,.b x3,.i x4,.r x5]=(.br (ilt x4 0) (.br (ilt (qv .i64 x4 1) 0) (.br (ilt (qv .i64 x4 1) 0) (.br (ilt 1 x4) (.leaf (0,[(.i 1),(.b x0),(.i x1),(.r x2),(.b x3),(.i x4),(.r x5)])) .fail) (.br (ile x4 (qv .i64 x4 1)) (.br (ilt 1 x4) (.leaf (0,[(.i 1),(.b x0),(.i x1),(.r x2),(.b x3),(.i x4),(.r x5)])) .fail) (.br (inb (qv .i64 x4 1) 232) (.br (inb (qv .i64 x4 1) 232) (.br (ilt 1 x4) (.br (ine (qh .i64 (cI x5 (qv .i64 x4 1) 0) 1) 0) (.br (ilt 0 (jo .i64 0 (qh .i64 (cI x5 (qv .i64 x4 1) 0) 1))) (.leaf (0,[(.i (q94 (jo .i64 0 (qh .i64 (cI x5 (qv .i64 x4 1) 0) 1)) 999999999)),(.b x0),(.i x1),(.r x2),(.b x3),(.i x4),(.r x5)])) (.leaf (0,[(.i 1),(.b x0),(.i x1),(.r x2),(.b x3),(.i x4),(.r x5)]))) .fail) (.br (ine (cI x5 (qv .i64 x4 1) 0) 0) (.br (ilt 0 (jo .i64 0 (cI x5 (qv .i64 x4 1) 0))) (.leaf (0,[(.i (q94 (jo .i64 0 (cI x5 (qv .i64 x4 1) 0)) 999999999)),(.b x0),(.i x1),(.r x2),(.b x3),(.i x4),(.r x5)])) (.leaf (0,[(.i 1),(.b x0),(.i x1),(.r x2),(.b x3),(.i x4),(.r x5)]))) .fail)) .fail) .fail))) (.br (ile x1 (qv .i64 x4 1)) (.br (ilt (qv .i64 x4 1) 0) (.br (ilt 1 x4) (.leaf (0,[(.i 1),(.b x0),(.i x1),(.r x2),(.b x3),(.i x4),(.r x5)])) .fail) (.br (ile x4 (qv .i64 x4 1)) (.br (ilt 1 x4) (.leaf (0,[(.i 1),(.b x0),(.i x1),(.r x2),(.b x3),(.i x4),(.r x5)])) .fail) (.br (inb (qv .i64 x4 1) 232) (.br (inb (qv .i64 x4 1) 232) (.br (ilt 1 x4) (.br (ine (qh .i64 (cI x5 (qv .i64 x4 1) 0) 1) 0) (.br (ilt 0 (jo .i64 0 (qh .i64 (cI x5 (qv .i64 x4 1) 0) 1))) (.leaf (0,[(.i (q94 (jo .i64 0 (qh .i64 (cI x5 (qv .i64 x4 1) 0) 1)) 999999999)),(.b x0),(.i x1),(.r x2),(.b x3),(.i x4),(.r x5)])) (.leaf (0,[(.i 1),(.b x0),(.i x1),(.r x2),(.b x3),(.i x4),(.r x5)]))) .fail) (.br (ine (cI x5 (qv .i64 x4 1) 0) 0) (.br (ilt 0 (jo .i64 0 (cI x5 (qv .i64 x4 1) 0))) (.leaf (0,[(.i (q94 (jo .i64 0 (cI x5 (qv .i64 x4 1) 0)) 999999999)),(.b x0),(.i x1),(.r x2),(.b x3),(.i x4),(.r x5)])) (.leaf (0,[(.i 1),(.b x0),(.i x1),(.r x2),(.b x3),(.i x4),(.r x5)]))) .fail)) .fail) .fail))) (.br (inb (qv .i64 x4 1) 232) (.br (inb (qv .i64 x4 1) 232) (.br (ilt (qv .i64 x4 1) 0) (.br (ilt 1 x4) (.br (ilt 0 (jo .i64 (qh .i64 0 (cI x2 (qv .i64 x4 1) 0)) 1)) (.leaf (0,[(.i (q94 (jo .i64 (qh .i64 0 (cI x2 (qv .i64 x4 1) 0)) 1) 999999999)),(.b x0),(.i x1),(.r x2),(.b x3),(.i x4),(.r x5)])) (.leaf (0,[(.i 1),(.b x0),(.i x1),(.r x2),(.b x3),(.i x4),(.r x5)]))) .fail) (.br (ile x4 (qv .i64 x4 1)) (.br (ilt 1 x4) (.br (ilt 0 (jo .i64 (qh .i64 0 (cI x2 (qv .i64 x4 1) 0)) 1)) (.leaf (0,[(.i (q94 (jo .i64 (qh .i64 0 (cI x2 (qv .i64 x4 1) 0)) 1) 999999999)),(.b x0),(.i x1),(.r x2),(.b x3),(.i x4),(.r x5)])) (.leaf (0,[(.i 1),(.b x0),(.i x1),(.r x2),(.b x3),(.i x4),(.r x5)]))) .fail) (.br (inb (qv .i64 x4 1) 232) (.br (inb (qv .i64 x4 1) 232) (.br (ilt 1 x4) (.br (ine (qh .i64 (cI x5 (qv .i64 x4 1) 0) 1) 0) (.br (ilt 0 (jo .i64 (qh .i64 0 (cI x2 (qv .i64 x4 1) 0)) (qh .i64 (cI x5 (qv .i64 x4 1) 0) 1))) (.leaf (0,[(.i (q94 (jo .i64 (qh .i64 0 (cI x2 (qv .i64 x4 1) 0)) (qh .i64 (cI x5 (qv .i64 x4 1) 0) 1)) 999999999)),(.b x0),(.i x1),(.r x2),(.b x3),(.i x4),(.r x5)])) (.leaf (0,[(.i 1),(.b x0),(.i x1),(.r x2),(.b x3),(.i x4),(.r x5)]))) .fail) (.br (ine (cI x5 (qv .i64 x4 1) 0) 0) (.br (ilt 0 (jo .i64 (qh .i64 0 (cI x2 (qv .i64 x4 1) 0)) (cI x5 (qv .i64 x4 1) 0))) (.leaf (0,[(.i (q94 (jo .i64 (qh .i64 0 (cI x2 (qv .i64 x4 1) 0)) (cI x5 (qv .i64 x4 1) 0)) 999999999)),(.b x0),(.i x1),(.r x2),(.b x3),(.i x4),(.r x5)])) (.leaf (0,[(.i 1),(.b x0),(.i x1),(.r x2),(.b x3),(.i x4),(.r x5)]))) .fail)) .fail) .fail))) .fail) .fail))) (.br (ile x1 x4) (.br (ilt (qv .i64 x4 1) 0) (.br (ilt (qv .i64 x4 1) 0) (.br (ilt 1 x4) (.leaf (0,[(.i 1),(.b x0),(.i x1),(.r x2),(.b x3),(.i x4),(.r x5)])) .fail) (.br (ile x4 (qv .i64 x4 1)) (.br (ilt 1 x4) (.leaf (0,[(.i 1),(.b x0),(.i x1),(.r x2),(.b x3),(.i x4),(.r x5)])) .fail) (.br (inb (qv .i64 x4 1) 232) (.br (inb (qv .i64 x4 1) 232) (.br (ilt 1 x4) (.br (ine (qh .i64 (cI x5 (qv .i64 x4 1) 0) 1) 0) (.br (ilt 0 (jo .i64 0 (qh .i64 (cI x5 (qv .i64 x4 1) 0) 1))) (.leaf (0,[(.i (q94 (jo .i64 0 (qh .i64 (cI x5 (qv .i64 x4 1) 0) 1)) 999999999)),(.b x0),(.i x1),(.r x2),(.b x3),(.i x4),(.r x5)])) (.leaf (0,[(.i 1),(.b x0),(.i x1),(.r x2),(.b x3),(.i x4),(.r x5)]))) .fail) (.br (ine (cI x5 (qv .i64 x4 1) 0) 0) (.br (ilt 0 (jo .i64 0 (cI x5 (qv .i64 x4 1) 0))) (.leaf (0,[(.i (q94 (jo .i64 0 (cI x5 (qv .i64 x4 1) 0)) 999999999)),(.b x0),(.i x1),(.r x2),(.b x3),(.i x4),(.r x5)])) (.leaf (0,[(.i 1),(.b x0),(.i x1),(.r x2),(.b x3),(.i x4),(.r x5)]))) .fail)) .fail) .fail))) (.br (ile x1 (qv .i64 x4 1)) (.br (ilt (qv .i64 x4 1) 0) (.br (ilt 1 x4) (.leaf (0,[(.i 1),(.b x0),(.i x1),(.r x2),(.b x3),(.i x4),(.r x5)])) .fail) (.br (ile x4 (qv .i64 x4 1)) (.br (ilt 1 x4) (.leaf (0,[(.i 1),(.b x0),(.i x1),(.r x2),(.b x3),(.i x4),(.r x5)])) .fail) (.br (inb (qv .i64 x4 1) 232) (.br (inb (qv .i64 x4 1) 232) (.br (ilt 1 x4) (.br (ine (qh .i64 (cI x5 (qv .i64 x4 1) 0) 1) 0) (.br (ilt 0 (jo .i64 0 (qh .i64 (cI x5 (qv .i64 x4 1) 0) 1))) (.leaf (0,[(.i (q94 (jo .i64 0 (qh .i64 (cI x5 (qv .i64 x4 1) 0) 1)) 999999999)),(.b x0),(.i x1),(.r x2),(.b x3),(.i x4),(.r x5)])) (.leaf (0,[(.i 1),(.b x0),(.i x1),(.r x2),(.b x3),(.i x4),(.r x5)]))) .fail) (.br (ine (cI x5 (qv .i64 x4 1) 0) 0) (.br (ilt 0 (jo .i64 0 (cI x5 (qv .i64 x4 1) 0))) (.leaf (0,[(.i (q94 (jo .i64 0 (cI x5 (qv .i64 x4 1) 0)) 999999999)),(.b x0),(.i x1),(.r x2),(.b x3),(.i x4),(.r x5)])) (.leaf (0,[(.i 1),(.b x0),(.i x1),(.r x2),(.b x3),(.i x4),(.r x5)]))) .fail)) .fail) .fail))) (.br (inb (qv .i64 x4 1) 232) (.br (inb (qv .i64 x4 1) 232) (.br (ilt (qv .i64 x4 1) 0) (.br (ilt 1 x4) (.br (ilt 0 (jo .i64 (qh .i64 0 (cI x2 (qv .i64 x4 1) 0)) 1)) (.leaf (0,[(.i (q94 (jo .i64 (qh .i64 0 (cI x2 (qv .i64 x4 1) 0)) 1) 999999999)),(.b x0),(.i x1),(.r x2),(.b x3),(.i x4),(.r x5)])) (.leaf (0,[(.i 1),(.b x0),(.i x1),(.r x2),(.b x3),(.i x4),(.r x5)]))) .fail) (.br (ile x4 (qv .i64 x4 1)) (.br (ilt 1 x4) (.br (ilt 0 (jo .i64 (qh .i64 0 (cI x2 (qv .i64 x4 1) 0)) 1)) (.leaf (0,[(.i (q94 (jo .i64 (qh .i64 0 (cI x2 (qv .i64 x4 1) 0)) 1) 999999999)),(.b x0),(.i x1),(.r x2),(.b x3),(.i x4),(.r x5)])) (.leaf (0,[(.i 1),(.b x0),(.i x1),(.r x2),(.b x3),(.i x4),(.r x5)]))) .fail) (.br (inb (qv .i64 x4 1) 232) (.br (inb (qv .i64 x4 1) 232) (.br (ilt 1 x4) (.br (ine (qh .i64 (cI x5 (qv .i64 x4 1) 0) 1) 0) (.br (ilt 0 (jo .i64 (qh .i64 0 (cI x2 (qv .i64 x4 1) 0)) (qh .i64 (cI x5 (qv .i64 x4 1) 0) 1))) (.leaf (0,[(.i (q94 (jo .i64 (qh .i64 0 (cI x2 (qv .i64 x4 1) 0)) (qh .i64 (cI x5 (qv .i64 x4 1) 0) 1)) 999999999)),(.b x0),(.i x1),(.r x2),(.b x3),(.i x4),(.r x5)])) (.leaf (0,[(.i 1),(.b x0),(.i x1),(.r x2),(.b x3),(.i x4),(.r x5)]))) .fail) (.br (ine (cI x5 (qv .i64 x4 1) 0) 0) (.br (ilt 0 (jo .i64 (qh .i64 0 (cI x2 (qv .i64 x4 1) 0)) (cI x5 (qv .i64 x4 1) 0))) (.leaf (0,[(.i (q94 (jo .i64 (qh .i64 0 (cI x2 (qv .i64 x4 1) 0)) (cI x5 (qv .i64 x4 1) 0)) 999999999)),(.b x0),(.i x1),(.r x2),(.b x3),(.i x4),(.r x5)])) (.leaf (0,[(.i 1),(.b x0),(.i x1),(.r x2),(.b x3),(.i x4),(.r x5)]))) .fail)) .fail) .fail))) .fail) .fail))) (.br (inb x4 232) (.br (inb x4 232) (.br (ilt (qv .i64 x4 1) 0) (.br (ilt (qv .i64 x4 1) 0) (.br (ilt 1 x4) (.br (ilt 0 (jo .i64 (qh .i64 (u7 .i64 (cI x2 x4 0) 1000000000) 0) 1)) (.leaf (0,[(.i (q94 (jo .i64 (qh .i64 (u7 .i64 (cI x2 x4 0) 1000000000) 0) 1) 999999999)),(.b x0),(.i x1),(.r x2),(.b x3),(.i x4),(.r x5)])) (.leaf (0,[(.i 1),(.b x0),(.i x1),(.r x2),(.b x3),(.i x4),(.r x5)]))) .fail) (.br (ile x4 (qv .i64 x4 1)) (.br (ilt 1 x4) (.br (ilt 0 (jo .i64 (qh .i64 (u7 .i64 (cI x2 x4 0) 1000000000) 0) 1)) (.leaf (0,[(.i (q94 (jo .i64 (qh .i64 (u7 .i64 (cI x2 x4 0) 1000000000) 0) 1) 999999999)),(.b x0),(.i x1),(.r x2),(.b x3),(.i x4),(.r x5)])) (.leaf (0,[(.i 1),(.b x0),(.i x1),(.r x2),(.b x3),(.i x4),(.r x5)]))) .fail) (.br (inb (qv .i64 x4 1) 232) (.br (inb (qv .i64 x4 1) 232) (.br (ilt 1 x4) (.br (ine (qh .i64 (cI x5 (qv .i64 x4 1) 0) 1) 0) (.br (ilt 0 (jo .i64 (qh .i64 (u7 .i64 (cI x2 x4 0) 1000000000) 0) (qh .i64 (cI x5 (qv .i64 x4 1) 0) 1))) (.leaf (0,[(.i (q94 (jo .i64 (qh .i64 (u7 .i64 (cI x2 x4 0) 1000000000) 0) (qh .i64 (cI x5 (qv .i64 x4 1) 0) 1)) 999999999)),(.b x0),(.i x1),(.r x2),(.b x3),(.i x4),(.r x5)])) (.leaf (0,[(.i 1),(.b x0),(.i x1),(.r x2),(.b x3),(.i x4),(.r x5)]))) .fail) (.br (ine (cI x5 (qv .i64 x4 1) 0) 0) (.br (ilt 0 (jo .i64 (qh .i64 (u7 .i64 (cI x2 x4 0) 1000000000) 0) (cI x5 (qv .i64 x4 1) 0))) (.leaf (0,[(.i (q94 (jo .i64 (qh .i64 (u7 .i64 (cI x2 x4 0) 1000000000) 0) (cI x5 (qv .i64 x4 1) 0)) 999999999)),(.b x0),(.i x1),(.r x2),(.b x3),(.i x4),(.r x5)])) (.leaf (0,[(.i 1),(.b x0),(.i x1),(.r x2),(.b x3),(.i x4),(.r x5)]))) .fail)) .fail) .fail))) (.br (ile x1 (qv .i64 x4 1)) (.br (ilt (qv .i64 x4 1) 0) (.br (ilt 1 x4) (.br (ilt 0 (jo .i64 (qh .i64 (u7 .i64 (cI x2 x4 0) 1000000000) 0) 1)) (.leaf (0,[(.i (q94 (jo .i64 (qh .i64 (u7 .i64 (cI x2 x4 0) 1000000000) 0) 1) 999999999)),(.b x0),(.i x1),(.r x2),(.b x3),(.i x4),(.r x5)])) (.leaf (0,[(.i 1),(.b x0),(.i x1),(.r x2),(.b x3),(.i x4),(.r x5)]))) .fail) (.br (ile x4 (qv .i64 x4 1)) (.br (ilt 1 x4) (.br (ilt 0 (jo .i64 (qh .i64 (u7 .i64 (cI x2 x4 0) 1000000000) 0) 1)) (.leaf (0,[(.i (q94 (jo .i64 (qh .i64 (u7 .i64 (cI x2 x4 0) 1000000000) 0) 1) 999999999)),(.b x0),(.i x1),(.r x2),(.b x3),(.i x4),(.r x5)])) (.leaf (0,[(.i 1),(.b x0),(.i x1),(.r x2),(.b x3),(.i x4),(.r x5)]))) .fail) (.br (inb (qv .i64 x4 1) 232) (.br (inb (qv .i64 x4 1) 232) (.br (ilt 1 x4) (.br (ine (qh .i64 (cI x5 (qv .i64 x4 1) 0) 1) 0) (.br (ilt 0 (jo .i64 (qh .i64 (u7 .i64 (cI x2 x4 0) 1000000000) 0) (qh .i64 (cI x5 (qv .i64 x4 1) 0) 1))) (.leaf (0,[(.i (q94 (jo .i64 (qh .i64 (u7 .i64 (cI x2 x4 0) 1000000000) 0) (qh .i64 (cI x5 (qv .i64 x4 1) 0) 1)) 999999999)),(.b x0),(.i x1),(.r x2),(.b x3),(.i x4),(.r x5)])) (.leaf (0,[(.i 1),(.b x0),(.i x1),(.r x2),(.b x3),(.i x4),(.r x5)]))) .fail) (.br (ine (cI x5 (qv .i64 x4 1) 0) 0) (.br (ilt 0 (jo .i64 (qh .i64 (u7 .i64 (cI x2 x4 0) 1000000000) 0) (cI x5 (qv .i64 x4 1) 0))) (.leaf (0,[(.i (q94 (jo .i64 (qh .i64 (u7 .i64 (cI x2 x4 0) 1000000000) 0) (cI x5 (qv .i64 x4 1) 0)) 999999999)),(.b x0),(.i x1),(.r x2),(.b x3),(.i x4),(.r x5)])) (.leaf (0,[(.i 1),(.b x0),(.i x1),(.r x2),(.b x3),(.i x4),(.r x5)]))) .fail)) .fail) .fail))) (.br (inb (qv .i64 x4 1) 232) (.br (inb (qv .i64 x4 1) 232) (.br (ilt (qv .i64 x4 1) 0) (.br (ilt 1 x4) (.br (ilt 0 (jo .i64 (qh .i64 (u7 .i64 (cI x2 x4 0) 1000000000) (cI x2 (qv .i64 x4 1) 0)) 1)) (.leaf (0,[(.i (q94 (jo .i64 (qh .i64 (u7 .i64 (cI x2 x4 0) 1000000000) (cI x2 (qv .i64 x4 1) 0)) 1) 999999999)),(.b x0),(.i x1),(.r x2),(.b x3),(.i x4),(.r x5)])) (.leaf (0,[(.i 1),(.b x0),(.i x1),(.r x2),(.b x3),(.i x4),(.r x5)]))) .fail) (.br (ile x4 (qv .i64 x4 1)) (.br (ilt 1 x4) (.br (ilt 0 (jo .i64 (qh .i64 (u7 .i64 (cI x2 x4 0) 1000000000) (cI x2 (qv .i64 x4 1) 0)) 1)) (.leaf (0,[(.i (q94 (jo .i64 (qh .i64 (u7 .i64 (cI x2 x4 0) 1000000000) (cI x2 (qv .i64 x4 1) 0)) 1) 999999999)),(.b x0),(.i x1),(.r x2),(.b x3),(.i x4),(.r x5)])) (.leaf (0,[(.i 1),(.b x0),(.i x1),(.r x2),(.b x3),(.i x4),(.r x5)]))) .fail) (.br (inb (qv .i64 x4 1) 232) (.br (inb (qv .i64 x4 1) 232) (.br (ilt 1 x4) (.br (ine (qh .i64 (cI x5 (qv .i64 x4 1) 0) 1) 0) (.br (ilt 0 (jo .i64 (qh .i64 (u7 .i64 (cI x2 x4 0) 1000000000) (cI x2 (qv .i64 x4 1) 0)) (qh .i64 (cI x5 (qv .i64 x4 1) 0) 1))) (.leaf (0,[(.i (q94 (jo .i64 (qh .i64 (u7 .i64 (cI x2 x4 0) 1000000000) (cI x2 (qv .i64 x4 1) 0)) (qh .i64 (cI x5 (qv .i64 x4 1) 0) 1)) 999999999)),(.b x0),(.i x1),(.r x2),(.b x3),(.i x4),(.r x5)])) (.leaf (0,[(.i 1),(.b x0),(.i x1),(.r x2),(.b x3),(.i x4),(.r x5)]))) .fail) (.br (ine (cI x5 (qv .i64 x4 1) 0) 0) (.br (ilt 0 (jo .i64 (qh .i64 (u7 .i64 (cI x2 x4 0) 1000000000) (cI x2 (qv .i64 x4 1) 0)) (cI x5 (qv .i64 x4 1) 0))) (.leaf (0,[(.i (q94 (jo .i64 (qh .i64 (u7 .i64 (cI x2 x4 0) 1000000000) (cI x2 (qv .i64 x4 1) 0)) (cI x5 (qv .i64 x4 1) 0)) 999999999)),(.b x0),(.i x1),(.r x2),(.b x3),(.i x4),(.r x5)])) (.leaf (0,[(.i 1),(.b x0),(.i x1),(.r x2),(.b x3),(.i x4),(.r x5)]))) .fail)) .fail) .fail))) .fail) .fail))) .fail) .fail))):=by kernel_rfl
theorem q6U(y0:Int)(y1:Int)(y2:Int)(y3:Int)(y4:Bool)(y5:Int)(y6:R)(y7:Bool)(y8:Int)(y9:R):vB [.i y0,.i y1,.i y2,.i y3,.b y4,.i y5,.r y6,.b y7,.i y8,.r y9]=(.br (ilt y3 y8) (.br (inb (qh .i64 y3 y1) 232) (.br (inb (qh .i64 y3 y1) 232) (.br (ilt y3 y8) (.br (inb y3 232) (.br (inb y3 232) (.br (ilt (qv .i64 (qh .i64 (qh .i64 (cI y6 (qh .i64 y3 y1) 0) y2) (u7 .i64 y0 (cI y9 y3 0))) (u7 .i64 (jo .i64 (qh .i64 (qh .i64 (cI y6 (qh .i64 y3 y1) 0) y2) (u7 .i64 y0 (cI y9 y3 0))) 1000000000) 1000000000)) 0) (.br (inb (qh .i64 y3 y1) 232) (.br (inb (qh .i64 y3 y1) 232) (.leaf (0,[(.i y0),(.i y1),(.i (qv .i64 (jo .i64 (qh .i64 (qh .i64 (cI y6 (qh .i64 y3 y1) 0) y2) (u7 .i64 y0 (cI y9 y3 0))) 1000000000) 1)),(.i (qh .i64 y3 1)),(.b y4),(.i (qeF y5 (qh .i64 (qh .i64 y3 y1) 1))),(.r (qcA y6 (qh .i64 y3 y1) 0 [(.i (qh .i64 (qv .i64 (qh .i64 (qh .i64 (cI y6 (qh .i64 y3 y1) 0) y2) (u7 .i64 y0 (cI y9 y3 0))) (u7 .i64 (jo .i64 (qh .i64 (qh .i64 (cI y6 (qh .i64 y3 y1) 0) y2) (u7 .i64 y0 (cI y9 y3 0))) 1000000000) 1000000000)) 1000000000))])),(.b y7),(.i y8),(.r y9)])) .fail) .fail) (.br (inb (qh .i64 y3 y1) 232) (.br (inb (qh .i64 y3 y1) 232) (.leaf (0,[(.i y0),(.i y1),(.i (jo .i64 (qh .i64 (qh .i64 (cI y6 (qh .i64 y3 y1) 0) y2) (u7 .i64 y0 (cI y9 y3 0))) 1000000000)),(.i (qh .i64 y3 1)),(.b y4),(.i (qeF y5 (qh .i64 (qh .i64 y3 y1) 1))),(.r (qcA y6 (qh .i64 y3 y1) 0 [(.i (qv .i64 (qh .i64 (qh .i64 (cI y6 (qh .i64 y3 y1) 0) y2) (u7 .i64 y0 (cI y9 y3 0))) (u7 .i64 (jo .i64 (qh .i64 (qh .i64 (cI y6 (qh .i64 y3 y1) 0) y2) (u7 .i64 y0 (cI y9 y3 0))) 1000000000) 1000000000)))])),(.b y7),(.i y8),(.r y9)])) .fail) .fail)) .fail) .fail) (.br (ilt (qv .i64 (qh .i64 (cI y6 (qh .i64 y3 y1) 0) y2) (u7 .i64 (jo .i64 (qh .i64 (cI y6 (qh .i64 y3 y1) 0) y2) 1000000000) 1000000000)) 0) (.br (inb (qh .i64 y3 y1) 232) (.br (inb (qh .i64 y3 y1) 232) (.leaf (0,[(.i y0),(.i y1),(.i (qv .i64 (jo .i64 (qh .i64 (cI y6 (qh .i64 y3 y1) 0) y2) 1000000000) 1)),(.i (qh .i64 y3 1)),(.b y4),(.i (qeF y5 (qh .i64 (qh .i64 y3 y1) 1))),(.r (qcA y6 (qh .i64 y3 y1) 0 [(.i (qh .i64 (qv .i64 (qh .i64 (cI y6 (qh .i64 y3 y1) 0) y2) (u7 .i64 (jo .i64 (qh .i64 (cI y6 (qh .i64 y3 y1) 0) y2) 1000000000) 1000000000)) 1000000000))])),(.b y7),(.i y8),(.r y9)])) .fail) .fail) (.br (inb (qh .i64 y3 y1) 232) (.br (inb (qh .i64 y3 y1) 232) (.leaf (0,[(.i y0),(.i y1),(.i (jo .i64 (qh .i64 (cI y6 (qh .i64 y3 y1) 0) y2) 1000000000)),(.i (qh .i64 y3 1)),(.b y4),(.i (qeF y5 (qh .i64 (qh .i64 y3 y1) 1))),(.r (qcA y6 (qh .i64 y3 y1) 0 [(.i (qv .i64 (qh .i64 (cI y6 (qh .i64 y3 y1) 0) y2) (u7 .i64 (jo .i64 (qh .i64 (cI y6 (qh .i64 y3 y1) 0) y2) 1000000000) 1000000000)))])),(.b y7),(.i y8),(.r y9)])) .fail) .fail))) .fail) .fail) (.br (ine y2 0) (.br (inb (qh .i64 y3 y1) 232) (.br (inb (qh .i64 y3 y1) 232) (.br (ilt y3 y8) (.br (inb y3 232) (.br (inb y3 232) (.br (ilt (qv .i64 (qh .i64 (qh .i64 (cI y6 (qh .i64 y3 y1) 0) y2) (u7 .i64 y0 (cI y9 y3 0))) (u7 .i64 (jo .i64 (qh .i64 (qh .i64 (cI y6 (qh .i64 y3 y1) 0) y2) (u7 .i64 y0 (cI y9 y3 0))) 1000000000) 1000000000)) 0) (.br (inb (qh .i64 y3 y1) 232) (.br (inb (qh .i64 y3 y1) 232) (.leaf (0,[(.i y0),(.i y1),(.i (qv .i64 (jo .i64 (qh .i64 (qh .i64 (cI y6 (qh .i64 y3 y1) 0) y2) (u7 .i64 y0 (cI y9 y3 0))) 1000000000) 1)),(.i (qh .i64 y3 1)),(.b y4),(.i (qeF y5 (qh .i64 (qh .i64 y3 y1) 1))),(.r (qcA y6 (qh .i64 y3 y1) 0 [(.i (qh .i64 (qv .i64 (qh .i64 (qh .i64 (cI y6 (qh .i64 y3 y1) 0) y2) (u7 .i64 y0 (cI y9 y3 0))) (u7 .i64 (jo .i64 (qh .i64 (qh .i64 (cI y6 (qh .i64 y3 y1) 0) y2) (u7 .i64 y0 (cI y9 y3 0))) 1000000000) 1000000000)) 1000000000))])),(.b y7),(.i y8),(.r y9)])) .fail) .fail) (.br (inb (qh .i64 y3 y1) 232) (.br (inb (qh .i64 y3 y1) 232) (.leaf (0,[(.i y0),(.i y1),(.i (jo .i64 (qh .i64 (qh .i64 (cI y6 (qh .i64 y3 y1) 0) y2) (u7 .i64 y0 (cI y9 y3 0))) 1000000000)),(.i (qh .i64 y3 1)),(.b y4),(.i (qeF y5 (qh .i64 (qh .i64 y3 y1) 1))),(.r (qcA y6 (qh .i64 y3 y1) 0 [(.i (qv .i64 (qh .i64 (qh .i64 (cI y6 (qh .i64 y3 y1) 0) y2) (u7 .i64 y0 (cI y9 y3 0))) (u7 .i64 (jo .i64 (qh .i64 (qh .i64 (cI y6 (qh .i64 y3 y1) 0) y2) (u7 .i64 y0 (cI y9 y3 0))) 1000000000) 1000000000)))])),(.b y7),(.i y8),(.r y9)])) .fail) .fail)) .fail) .fail) (.br (ilt (qv .i64 (qh .i64 (cI y6 (qh .i64 y3 y1) 0) y2) (u7 .i64 (jo .i64 (qh .i64 (cI y6 (qh .i64 y3 y1) 0) y2) 1000000000) 1000000000)) 0) (.br (inb (qh .i64 y3 y1) 232) (.br (inb (qh .i64 y3 y1) 232) (.leaf (0,[(.i y0),(.i y1),(.i (qv .i64 (jo .i64 (qh .i64 (cI y6 (qh .i64 y3 y1) 0) y2) 1000000000) 1)),(.i (qh .i64 y3 1)),(.b y4),(.i (qeF y5 (qh .i64 (qh .i64 y3 y1) 1))),(.r (qcA y6 (qh .i64 y3 y1) 0 [(.i (qh .i64 (qv .i64 (qh .i64 (cI y6 (qh .i64 y3 y1) 0) y2) (u7 .i64 (jo .i64 (qh .i64 (cI y6 (qh .i64 y3 y1) 0) y2) 1000000000) 1000000000)) 1000000000))])),(.b y7),(.i y8),(.r y9)])) .fail) .fail) (.br (inb (qh .i64 y3 y1) 232) (.br (inb (qh .i64 y3 y1) 232) (.leaf (0,[(.i y0),(.i y1),(.i (jo .i64 (qh .i64 (cI y6 (qh .i64 y3 y1) 0) y2) 1000000000)),(.i (qh .i64 y3 1)),(.b y4),(.i (qeF y5 (qh .i64 (qh .i64 y3 y1) 1))),(.r (qcA y6 (qh .i64 y3 y1) 0 [(.i (qv .i64 (qh .i64 (cI y6 (qh .i64 y3 y1) 0) y2) (u7 .i64 (jo .i64 (qh .i64 (cI y6 (qh .i64 y3 y1) 0) y2) 1000000000) 1000000000)))])),(.b y7),(.i y8),(.r y9)])) .fail) .fail))) .fail) .fail) (.leaf (1,[(.b y4),(.i y5),(.r y6),(.b y7),(.i y8),(.r y9)])))):=by kernel_rfl
theorem qig(x0:Int)(x1:Int)(x2:Bool)(x3:Int)(x4:R)(x5:Bool)(x6:Int)(x7:R):qF [.i x0,.i x1,.b x2,.i x3,.r x4,.b x5,.i x6,.r x7]=(let r0:TR:=(qg vB [(.i x0),(.i x1),(.i 0),(.i 0),(.b x2),(.i x3),(.r x4),(.b x5),(.i x6),(.r x7)])
 .br (okR r0) (let r1:TR:=(qx [(.b (gB r0 0)),(.i (gI r0 1)),(.r (gR r0 2))])
 .br (okR r1) (.leaf (0,[(.b (gB r1 0)),(.i (gI r1 1)),(.r (gR r1 2)),(.b (gB r0 3)),(.i (gI r0 4)),(.r (gR r0 5))])) .fail) .fail):=by kernel_rfl
theorem qhS(y0:Int)(y1:Int)(y2:Bool)(y3:Int)(y4:R)(y5:Bool)(y6:Int)(y7:R)(y8:Bool)(y9:Int)(y10:R)(y11:Bool)(y12:Int)(y13:R):js [.i y0,.i y1,.b y2,.i y3,.r y4,.b y5,.i y6,.r y7,.b y8,.i y9,.r y10,.b y11,.i y12,.r y13]=(let r0:TR:=(zt [(.b y11),(.i y12),(.r y13),(.b y5),(.i y6),(.r y7)])
 .br (okR r0) (.br (ile 0 (gI r0 0)) (let r1:TR:=(jK [(.b (gB r0 1)),(.i (gI r0 2)),(.r (gR r0 3)),(.b (gB r0 4)),(.i (gI r0 5)),(.r (gR r0 6))])
 .br (okR r1) (let r2:TR:=(qF [(.i (qv .i64 0 (gI r1 0))),(.i 0),(.b (gB r1 1)),(.i (gI r1 2)),(.r (gR r1 3)),(.b (gB r1 4)),(.i (gI r1 5)),(.r (gR r1 6))])
 .br (okR r2) (.leaf (0,[(.i y0),(.i (qh .i64 y1 (gI r1 0))),(.b y2),(.i y3),(.r y4),(.b (gB r2 3)),(.i (gI r2 4)),(.r (gR r2 5)),(.b y8),(.i y9),(.r y10),(.b (gB r2 0)),(.i (gI r2 1)),(.r (gR r2 2))])) .fail) .fail) (.leaf (1,[(.i y0),(.i y1),(.b y2),(.i y3),(.r y4),(.b (gB r0 4)),(.i (gI r0 5)),(.r (gR r0 6)),(.b y8),(.i y9),(.r y10),(.b (gB r0 1)),(.i (gI r0 2)),(.r (gR r0 3))]))) .fail):=by kernel_rfl
theorem qj2(y0:Int)(y1:Bool)(y2:Int)(y3:R)(y4:Bool)(y5:Int)(y6:R)(y7:Bool)(y8:Int)(y9:R)(y10:Bool)(y11:Int)(y12:R):q0g [.i y0,.b y1,.i y2,.r y3,.b y4,.i y5,.r y6,.b y7,.i y8,.r y9,.b y10,.i y11,.r y12]=(.br (ile 0 y0) (.br (q4D 232 232) (.br (q4D 1 232) (.br (q4D y11 232) (.br (q4D 0 y11) (.br (inb y0 232) (.br (inb y0 232) (let r0:TR:=(qx [(.b y10),(.i (qh .i64 y11 1)),(.r (qcA (qin y12 1 y12 0 (q94 (qvA y11 0) (qvA 232 1))) 0 0 [(.i (cI y3 y0 0))]))])
 .br (okR r0) (let r1:TR:=(qg js [(.i y0),(.i 0),(.b y1),(.i y2),(.r y3),(.b y4),(.i y5),(.r y6),(.b y7),(.i y8),(.r y9),(.b (gB r0 0)),(.i (gI r0 1)),(.r (gR r0 2))])
 .br (okR r1) (.br (inb (gI r1 0) 232) (.br (inb (gI r1 0) 232) (.leaf (0,[(.i (qv .i64 (gI r1 0) 1)),(.b (gB r1 2)),(.i (gI r1 3)),(.r (gR r1 4)),(.b (gB r1 5)),(.i (gI r1 6)),(.r (gR r1 7)),(.b (gB r1 8)),(.i (qeF (gI r1 9) (qh .i64 (gI r1 0) 1))),(.r (qcA (gR r1 10) (gI r1 0) 0 [(.i (gI r1 1))])),(.b (gB r1 11)),(.i (gI r1 12)),(.r (gR r1 13))])) .fail) .fail) .fail) .fail) .fail) .fail) .fail) .fail) .fail) .fail) (.leaf (1,[(.b y1),(.i y2),(.r y3),(.b y4),(.i y5),(.r y6),(.b y7),(.i y8),(.r y9),(.b y10),(.i y11),(.r y12)]))):=by kernel_rfl
theorem qmj(x0:Bool)(x1:Int)(x2:R)(x3:Bool)(x4:Int)(x5:R):wu [.b x0,.i x1,.r x2,.b x3,.i x4,.r x5]=(let r0:TR:=(qg q0g [(.i (qv .i64 x1 1)),(.b x0),(.i x1),(.r x2),(.b x3),(.i x4),(.r x5),(.b false),(.i 0),(.r (q3i 232 [(.i 0)])),(.b false),(.i 0),(.r (q3i 232 [(.i 0)]))])
 .br (okR r0) (let r1:TR:=(qx [(.b (gB r0 6)),(.i (gI r0 7)),(.r (gR r0 8))])
 .br (okR r1) (.leaf (0,[(.b (gB r0 0)),(.i (gI r0 1)),(.r (gR r0 2)),(.b (gB r0 3)),(.i (gI r0 4)),(.r (gR r0 5)),(.b (gB r1 0)),(.i (gI r1 1)),(.r (gR r1 2)),(.b (gB r0 9)),(.i (gI r0 10)),(.r (gR r0 11))])) .fail) .fail):=by kernel_rfl
theorem qo0(y0:Int)(y1:Int):q1e [.i y0,.i y1]=(.br (ine y1 0) (.br (ine y1 0) (.leaf (0,[(.i y1),(.i (q5N y0 y1))])) .fail) (.leaf (1,[(.i y0)]))):=by kernel_rfl
theorem qpe(y0:Bool)(y1:Int)(y2:R)(y3:Bool)(y4:Int)(y5:R):q5a [.b y0,.i y1,.r y2,.b y3,.i y4,.r y5]=(.br (ilt 0 y4) (.br (ile y1 1) (.br (ile y4 1) (let r0:TR:=(qg q1e [(.i (cI y2 0 0)),(.i (cI y5 0 0))])
 .br (okR r0) (let r1:TR:=(zi [(.i (gI r0 0))])
 .br (okR r1) (.leaf (2,[(.s (gS r1 0)),(.i 0)])) .fail) .fail) (let r0:TR:=(wu [(.b y0),(.i y1),(.r y2),(.b y3),(.i y4),(.r y5)])
 .br (okR r0) (.leaf (0,[(.b (gB r0 3)),(.i (gI r0 4)),(.r (gR r0 5)),(.b (gB r0 9)),(.i (gI r0 10)),(.r (gR r0 11))])) .fail)) (let r0:TR:=(wu [(.b y0),(.i y1),(.r y2),(.b y3),(.i y4),(.r y5)])
 .br (okR r0) (.leaf (0,[(.b (gB r0 3)),(.i (gI r0 4)),(.r (gR r0 5)),(.b (gB r0 9)),(.i (gI r0 10)),(.r (gR r0 11))])) .fail)) (.leaf (1,[(.b y0),(.i y1),(.r y2)]))):=by kernel_rfl
theorem qtt(x0:List UInt8)(x1:List UInt8):q23 [.s x0,.s x1]=(let r0:TR:=(zG [(.r [[(.s x0)],[(.s x1)]])])
 .br (okR r0) (.br (ine (gI r0 0) 0) (.leaf (0,[(.s []),(.i (gI r0 0))])) (let r1:TR:=(zp [(.s x0)])
 .br (okR r1) (let r2:TR:=(zp [(.s x1)])
 .br (okR r2) (let r3:TR:=(qg q5a [(.b (gB r1 0)),(.i (gI r1 1)),(.r (gR r1 2)),(.b (gB r2 0)),(.i (gI r2 1)),(.r (gR r2 2))])
 .br (okR r3) (.br (jIs r3 0) (let r4:TR:=(qG [(.b false),(.i (gI r3 1)),(.r (gR r3 2))])
 .br (okR r4) (.leaf (0,[(.s (gS r4 0)),(.i 0)])) .fail) (.leaf (0,[(.s (gS r3 0)),(.i (gI r3 1))]))) .fail) .fail) .fail)) .fail):=by kernel_rfl
theorem qpl(x0:List UInt8):qE [.s x0]=(let r0:TR:=(qK [(.s x0)])
 .br (okR r0) (let r1:TR:=(qJ [(.s (gS r0 0))])
 .br (okR r1) (let r2:TR:=(qJ [(.s (gS r0 1))])
 .br (okR r2) (.br (ieq (gI r1 0) 3) (.leaf (0,[(.i 3)])) (.br (ieq (gI r2 0) 3) (.leaf (0,[(.i 3)])) (.br (ine (gI r1 0) 0) (.leaf (0,[(.i (qeF (gI r1 0) (gI r2 0)))])) (.br (ine (gI r2 0) 0) (.leaf (0,[(.i (qeF (gI r1 0) (gI r2 0)))])) (.br (not (gB r0 2)) (.leaf (0,[(.i 0)])) (let r3:TR:=(q1W [(.s (gS r0 1)),(.s [49])])
 .br (okR r3) (let r4:TR:=(q23 [(.s (gS r0 0)),(.s (gS r0 1))])
 .br (okR r4) (.br (ine (gI r3 1) 0) (.leaf (0,[(.i 3)])) (.br (ine (gI r4 1) 0) (.leaf (0,[(.i 3)])) (.br (ile (gI r3 0) 0) (.leaf (0,[(.i 3)])) (.br (not (seq (gS r4 0) [49])) (.leaf (0,[(.i 3)])) (.leaf (0,[(.i 0)])))))) .fail) .fail)))))) .fail) .fail) .fail):=by kernel_rfl
theorem q3S(y0:Int)(y1:Int)(y2:List UInt8)(y3:List UInt8)(y4:List UInt8)(y5:R):q2s [.i y0,.i y1,.s y2,.s y3,.s y4,.r y5]=(.br (ilt y1 y0) (.br (inb y1 (qj y5)) (let r0:TR:=(qE [(.s (cS y5 y1 0))])
 .br (okR r0) (.br (ine (gI r0 0) 0) (.leaf (2,[(.i (gI r0 0))])) (.leaf (0,[(.i y0),(.i (qh .i64 y1 1)),(.s y2),(.s y3),(.s y4),(.r y5)]))) .fail) .fail) (.leaf (1,[(.s y2),(.s y3),(.s y4)]))):=by kernel_rfl
theorem qpb(x0:List UInt8)(x1:List UInt8)(x2:List UInt8):jZ [.s x0,.s x1,.s x2]=(let r0:TR:=(qg q2s [(.i (qj [[(.s x0)],[(.s x1)],[(.s x2)]])),(.i 0),(.s x0),(.s x1),(.s x2),(.r [[(.s x0)],[(.s x1)],[(.s x2)]])])
 .br (okR r0) (.br (jIs r0 0) (.br (inb 0 (qm (gS r0 2))) (.br (ieq (sat (gS r0 2) 0) 45) (.leaf (0,[(.i 2)])) (.leaf (0,[(.i 0)]))) .fail) (.leaf (0,[(.i (gI r0 0))]))) .fail):=by kernel_rfl
theorem qfB(y0:R)(y1:R)(y2:Int)(y3:Int):q3H [.r y0,.r y1,.i y2,.i y3]=(.br (ilt y3 y2) (.br (inb y3 (qj y1)) (let r0:TR:=(jZ [(.s (cS y1 y3 0)),(.s (cS y1 y3 1)),(.s (cS y1 y3 2))])
 .br (okR r0) (.br (ine (gI r0 0) 0) (.leaf (2,[(.i (gI r0 0))])) (.leaf (0,[(.r y0),(.r y1),(.i y2),(.i (qh .i64 y3 1))]))) .fail) .fail) (.leaf (1,[(.r y0)]))):=by kernel_rfl
theorem qsk(x0:R):zL [.r x0]=(.br (ilt 64 (qj x0)) (.leaf (0,[(.i 5)])) (let r0:TR:=(qg q3H [(.r x0),(.r x0),(.i (qj x0)),(.i 0)])
 .br (okR r0) (.br (jIs r0 0) (.br (ieq (qj (gR r0 0)) 0) (.leaf (0,[(.i 13)])) (.leaf (0,[(.i 0)]))) (.leaf (0,[(.i (gI r0 0))]))) .fail)):=by kernel_rfl
theorem qpc(x0:List UInt8)(x1:List UInt8):yh [.s x0,.s x1]=(.br (ilt 9 (qm x0)) (.leaf (0,[(.i 0),(.i 0),(.b false)])) (.br (ilt 9 (qm x1)) (.leaf (0,[(.i 0),(.i 0),(.b false)])) (.br (okR (ve [(.s x0)])) (.br (okR (ve [(.s x1)])) (.leaf (0,[(.i (gI (ve [(.s x0)]) 0)),(.i (gI (ve [(.s x1)]) 0)),(.b true)])) .fail) .fail))):=by kernel_rfl
theorem qnc(x0:Int):kh [.i x0]=(.br (okR (zi [(.i x0)])) (.leaf (0,[(.s (gS (zi [(.i x0)]) 0)),(.i 0)])) .fail):=by kernel_rfl
theorem qeU(x0:Bool)(x1:Int)(x2:R):zF [.b x0,.i x1,.r x2]=(let r0:TR:=(qG [(.b x0),(.i x1),(.r x2)])
 .br (okR r0) (let r1:TR:=(qJ [(.s (gS r0 0))])
 .br (okR r1) (.br (ine (gI r1 0) 0) (.leaf (0,[(.s []),(.i (gI r1 0)),(.b (gB r0 1)),(.i (gI r0 2)),(.r (gR r0 3))])) (.leaf (0,[(.s (gS r0 0)),(.i 0),(.b (gB r0 1)),(.i (gI r0 2)),(.r (gR r0 3))]))) .fail) .fail):=by kernel_rfl
theorem qio(x0:Bool)(x1:Int)(x2:R)(x3:Bool)(x4:Int)(x5:R):zX [.b x0,.i x1,.r x2,.b x3,.i x4,.r x5]=(.br (beq x0 x3) (let r0:TR:=(qF [(.i 1),(.i 0),(.b x0),(.i x1),(.r x2),(.b x3),(.i x4),(.r x5)])
 .br (okR r0) (.leaf (0,[(.b (gB r0 0)),(.i (gI r0 1)),(.r (gR r0 2)),(.b (gB r0 3)),(.i (gI r0 4)),(.r (gR r0 5))])) .fail) (let r0:TR:=(zt [(.b x0),(.i x1),(.r x2),(.b x3),(.i x4),(.r x5)])
 .br (okR r0) (.br (ile 0 (gI r0 0)) (let r1:TR:=(qF [(.i (-1)),(.i 0),(.b (gB r0 1)),(.i (gI r0 2)),(.r (gR r0 3)),(.b (gB r0 4)),(.i (gI r0 5)),(.r (gR r0 6))])
 .br (okR r1) (.leaf (0,[(.b (gB r1 0)),(.i (gI r1 1)),(.r (gR r1 2)),(.b (gB r1 3)),(.i (gI r1 4)),(.r (gR r1 5))])) .fail) (let r1:TR:=(qF [(.i (-1)),(.i 0),(.b (gB r0 4)),(.i (gI r0 5)),(.r (gR r0 6)),(.b (gB r0 1)),(.i (gI r0 2)),(.r (gR r0 3))])
 .br (okR r1) (.leaf (0,[(.b (gB r1 0)),(.i (gI r1 1)),(.r (gR r1 2)),(.b (gB r0 4)),(.i (gI r0 5)),(.r (gR r0 6))])) .fail)) .fail)):=by kernel_rfl
theorem qaL(y0:R)(y1:Int)(y2:Int)(y3:Bool)(y4:Int)(y5:R):q4P [.r y0,.i y1,.i y2,.b y3,.i y4,.r y5]=(.br (ilt y2 y1) (.br (inb y2 (qj y0)) (let r0:TR:=(zp [(.s (cS y0 y2 0))])
 .br (okR r0) (let r1:TR:=(zX [(.b y3),(.i y4),(.r y5),(.b (gB r0 0)),(.i (gI r0 1)),(.r (gR r0 2))])
 .br (okR r1) (.leaf (0,[(.r y0),(.i y1),(.i (qh .i64 y2 1)),(.b (gB r1 0)),(.i (gI r1 1)),(.r (gR r1 2))])) .fail) .fail) .fail) (.leaf (1,[(.b y3),(.i y4),(.r y5)]))):=by kernel_rfl
theorem qt2(x0:R):q8U [.r x0]=(let r0:TR:=(qg q4P [(.r x0),(.i (qj x0)),(.i 0),(.b false),(.i 0),(.r (q3i 232 [(.i 0)]))])
 .br (okR r0) (let r1:TR:=(zF [(.b (gB r0 0)),(.i (gI r0 1)),(.r (gR r0 2))])
 .br (okR r1) (.leaf (0,[(.s (gS r1 0)),(.i (gI r1 1))])) .fail) .fail):=by kernel_rfl
theorem qth(x0:List UInt8)(x1:List UInt8):q1U [.s x0,.s x1]=(let r0:TR:=(zG [(.r [[(.s x0)],[(.s x1)]])])
 .br (okR r0) (.br (ine (gI r0 0) 0) (.leaf (0,[(.s []),(.i (gI r0 0))])) (let r1:TR:=(yh [(.s x0),(.s x1)])
 .br (okR r1) (.br (gB r1 2) (let r2:TR:=(kh [(.i (qh .i64 (gI r1 0) (gI r1 1)))])
 .br (okR r2) (.leaf (0,[(.s (gS r2 0)),(.i (gI r2 1))])) .fail) (let r2:TR:=(q8U [(.r [[(.s x0)],[(.s x1)]])])
 .br (okR r2) (.leaf (0,[(.s (gS r2 0)),(.i (gI r2 1))])) .fail)) .fail)) .fail):=by kernel_rfl
theorem ql0(x0:List UInt8):q0Q [.s x0]=(let r0:TR:=(yk [(.s x0)])
 .br (okR r0) (.br (ieq (gI r0 0) 0) (.leaf (0,[(.s x0)])) (.br (ieq (gI r0 0) 1) (.br (ile ((qm [45])+(qm x0)) 140737488355328) (.leaf (0,[(.s (qbC [45] x0))])) .fail) (.br (q4D (qm x0) (qm x0)) (.br (q4D 1 (qm x0)) (.leaf (0,[(.s (qaA x0 1 (qm x0)))])) .fail) .fail))) .fail):=by kernel_rfl
theorem qud(x0:List UInt8)(x1:List UInt8):q5W [.s x0,.s x1]=(let r0:TR:=(zG [(.r [[(.s x0)],[(.s x1)]])])
 .br (okR r0) (.br (ine (gI r0 0) 0) (.leaf (0,[(.s []),(.i (gI r0 0))])) (let r1:TR:=(q0Q [(.s x1)])
 .br (okR r1) (let r2:TR:=(q1U [(.s x0),(.s (gS r1 0))])
 .br (okR r2) (.leaf (0,[(.s (gS r2 0)),(.i (gI r2 1))])) .fail) .fail)) .fail):=by kernel_rfl
theorem q9X(x0:List UInt8)(x1:List UInt8)(x2:Int):wD [.s x0,.s x1,.i x2]=(.br (ine x2 0) (.leaf (0,[(.s [48]),(.i x2)])) (let r0:TR:=(q5W [(.s x0),(.s x1)])
 .br (okR r0) (.br (ine (gI r0 1) 0) (.leaf (0,[(.s [48]),(.i (gI r0 1))])) (.leaf (0,[(.s (gS r0 0)),(.i (gI r0 1))]))) .fail)):=by kernel_rfl
theorem qkv(x0:List UInt8)(x1:List UInt8)(x2:Int):zh [.s x0,.s x1,.i x2]=(let r0:TR:=(wD [(.s x0),(.s x1),(.i x2)])
 .br (okR r0) (.leaf (0,[(.s (gS r0 0)),(.i (gI r0 1))])) .fail):=by kernel_rfl
theorem qft(y0:Int)(y1:Int)(y2:Bool)(y3:Int)(y4:R)(y5:Bool)(y6:Int)(y7:R)(y8:Bool)(y9:Int)(y10:R):jP [.i y0,.i y1,.b y2,.i y3,.r y4,.b y5,.i y6,.r y7,.b y8,.i y9,.r y10]=(.br (ilt y1 y0) (.br (inb y1 232) (.br (inb y1 232) (let r0:TR:=(qF [(.i (cI y7 y1 0)),(.i y1),(.b y8),(.i y9),(.r y10),(.b y2),(.i y3),(.r y4)])
 .br (okR r0) (.leaf (0,[(.i y0),(.i (qh .i64 y1 1)),(.b (gB r0 3)),(.i (gI r0 4)),(.r (gR r0 5)),(.b y5),(.i y6),(.r y7),(.b (gB r0 0)),(.i (gI r0 1)),(.r (gR r0 2))])) .fail) .fail) .fail) (.leaf (1,[(.b y2),(.i y3),(.r y4),(.b y5),(.i y6),(.r y7),(.b y8),(.i y9),(.r y10)]))):=by kernel_rfl
theorem qhB(x0:Bool)(x1:Int)(x2:R)(x3:Bool)(x4:Int)(x5:R):uE [.b x0,.i x1,.r x2,.b x3,.i x4,.r x5]=(let r0:TR:=(qg jP [(.i x4),(.i 0),(.b x0),(.i x1),(.r x2),(.b x3),(.i x4),(.r x5),(.b (not (beq x0 x3))),(.i 0),(.r (q3i 232 [(.i 0)]))])
 .br (okR r0) (.leaf (0,[(.b (gB r0 0)),(.i (gI r0 1)),(.r (gR r0 2)),(.b (gB r0 3)),(.i (gI r0 4)),(.r (gR r0 5)),(.b (gB r0 6)),(.i (gI r0 7)),(.r (gR r0 8))])) .fail):=by kernel_rfl
theorem qtG(x0:List UInt8)(x1:List UInt8):q4c [.s x0,.s x1]=(let r0:TR:=(zG [(.r [[(.s x0)],[(.s x1)]])])
 .br (okR r0) (.br (ine (gI r0 0) 0) (.leaf (0,[(.s []),(.i (gI r0 0))])) (let r1:TR:=(yh [(.s x0),(.s x1)])
 .br (okR r1) (.br (gB r1 2) (let r2:TR:=(kh [(.i (u7 .i64 (gI r1 0) (gI r1 1)))])
 .br (okR r2) (.leaf (0,[(.s (gS r2 0)),(.i (gI r2 1))])) .fail) (let r2:TR:=(zp [(.s x0)])
 .br (okR r2) (let r3:TR:=(zp [(.s x1)])
 .br (okR r3) (let r4:TR:=(uE [(.b (gB r2 0)),(.i (gI r2 1)),(.r (gR r2 2)),(.b (gB r3 0)),(.i (gI r3 1)),(.r (gR r3 2))])
 .br (okR r4) (let r5:TR:=(zF [(.b (gB r4 6)),(.i (gI r4 7)),(.r (gR r4 8))])
 .br (okR r5) (.leaf (0,[(.s (gS r5 0)),(.i (gI r5 1))])) .fail) .fail) .fail) .fail)) .fail)) .fail):=by kernel_rfl
theorem qa2(x0:List UInt8)(x1:List UInt8)(x2:Int):zA [.s x0,.s x1,.i x2]=(.br (ine x2 0) (.leaf (0,[(.s [48]),(.i x2)])) (let r0:TR:=(q4c [(.s x0),(.s x1)])
 .br (okR r0) (.br (ine (gI r0 1) 0) (.leaf (0,[(.s [48]),(.i (gI r0 1))])) (.leaf (0,[(.s (gS r0 0)),(.i (gI r0 1))]))) .fail)):=by kernel_rfl
theorem q9E(y0:List UInt8)(y1:R)(y2:Int)(y3:Int)(y4:Int):jA [.s y0,.r y1,.i y2,.i y3,.i y4]=(.br (ilt y3 y2) (.br (inb y3 (qj y1)) (let r0:TR:=(zA [(.s y0),(.s (cS y1 y3 0)),(.i y4)])
 .br (okR r0) (.leaf (0,[(.s (gS r0 0)),(.r y1),(.i y2),(.i (qh .i64 y3 1)),(.i (gI r0 1))])) .fail) .fail) (.leaf (1,[(.s y0),(.i y4)]))):=by kernel_rfl
theorem qkW(x0:R)(x1:Int):qf [.r x0,.i x1]=(let r0:TR:=(qg jA [(.s [49]),(.r x0),(.i (qj x0)),(.i 0),(.i x1)])
 .br (okR r0) (.leaf (0,[(.s (gS r0 0)),(.i (gI r0 1))])) .fail):=by kernel_rfl
theorem qq0(x0:List UInt8)(x1:List UInt8)(x2:List UInt8)(x3:List UInt8)(x4:Int):q2M [.s x0,.s x1,.s x2,.s x3,.i x4]=(let r0:TR:=(qf [(.r [[(.s x0)],[(.s x3)]]),(.i x4)])
 .br (okR r0) (let r1:TR:=(qf [(.r [[(.s x2)],[(.s x1)]]),(.i (gI r0 1))])
 .br (okR r1) (let r2:TR:=(zh [(.s (gS r0 0)),(.s (gS r1 0)),(.i (gI r1 1))])
 .br (okR r2) (let r3:TR:=(qf [(.r [[(.s x1)],[(.s x3)]]),(.i (gI r2 1))])
 .br (okR r3) (.leaf (0,[(.s (gS r2 0)),(.s (gS r3 0)),(.i (gI r3 1))])) .fail) .fail) .fail) .fail):=by kernel_rfl
theorem qbV(y0:R)(y1:Int)(y2:Int):q10 [.r y0,.i y1,.i y2]=(.br (ilt y2 y1) (.br (inb y2 (qj y0)) (let r0:TR:=(qE [(.s (cS y0 y2 0))])
 .br (okR r0) (.br (ine (gI r0 0) 0) (.leaf (2,[(.i (gI r0 0))])) (.leaf (0,[(.r y0),(.i y1),(.i (qh .i64 y2 1))]))) .fail) .fail) (.leaf (1,[]))):=by kernel_rfl
theorem qni(x0:R):qP [.r x0]=(let r0:TR:=(qg q10 [(.r x0),(.i (qj x0)),(.i 0)])
 .br (okR r0) (.br (jIs r0 0) (.leaf (0,[(.i 0)])) (.leaf (0,[(.i (gI r0 0))]))) .fail):=by kernel_rfl
theorem qgx(x0:List UInt8)(x1:List UInt8):yP [.s x0,.s x1]=(let r0:TR:=(qD [(.s x0),(.s x1)])
 .br (okR r0) (.leaf (0,[(.b (gB r0 0))])) .fail):=by kernel_rfl
theorem qny(x0:List UInt8)(x1:List UInt8):q12 [.s x0,.s x1]=(.br (seq x1 [49]) (.leaf (0,[(.s x0)])) (.br (ile ((qm x0)+(qm [47])) 140737488355328) (.br (ile ((qm (qbC x0 [47]))+(qm x1)) 140737488355328) (.leaf (0,[(.s (qbC (qbC x0 [47]) x1))])) .fail) .fail)):=by kernel_rfl
theorem qnv(x0:List UInt8)(x1:List UInt8):q3G [.s x0,.s x1]=(let r0:TR:=(zG [(.r [[(.s x0)],[(.s x1)]])])
 .br (okR r0) (.br (ine (gI r0 0) 0) (.leaf (0,[(.s []),(.s []),(.i (gI r0 0))])) (.br (seq x1 [48]) (.leaf (0,[(.s []),(.s []),(.i 10)])) (let r1:TR:=(yh [(.s x0),(.s x1)])
 .br (okR r1) (.br (gB r1 2) (.br (ine (gI r1 1) 0) (.br (ine (gI r1 1) 0) (.br (ine (q5N (gI r1 0) (gI r1 1)) 0) (.br (not (beq (ilt (q5N (gI r1 0) (gI r1 1)) 0) (ilt (gI r1 1) 0))) (let r2:TR:=(zi [(.i (qv .i64 (jo .i64 (gI r1 0) (gI r1 1)) 1))])
 .br (okR r2) (let r3:TR:=(zi [(.i (qh .i64 (q5N (gI r1 0) (gI r1 1)) (gI r1 1)))])
 .br (okR r3) (.leaf (0,[(.s (gS r2 0)),(.s (gS r3 0)),(.i 0)])) .fail) .fail) (let r2:TR:=(zi [(.i (jo .i64 (gI r1 0) (gI r1 1)))])
 .br (okR r2) (let r3:TR:=(zi [(.i (q5N (gI r1 0) (gI r1 1)))])
 .br (okR r3) (.leaf (0,[(.s (gS r2 0)),(.s (gS r3 0)),(.i 0)])) .fail) .fail)) (let r2:TR:=(zi [(.i (jo .i64 (gI r1 0) (gI r1 1)))])
 .br (okR r2) (let r3:TR:=(zi [(.i (q5N (gI r1 0) (gI r1 1)))])
 .br (okR r3) (.leaf (0,[(.s (gS r2 0)),(.s (gS r3 0)),(.i 0)])) .fail) .fail)) .fail) .fail) (let r2:TR:=(zp [(.s x0)])
 .br (okR r2) (let r3:TR:=(zp [(.s x1)])
 .br (okR r3) (let r4:TR:=(wu [(.b (gB r2 0)),(.i (gI r2 1)),(.r (gR r2 2)),(.b (gB r3 0)),(.i (gI r3 1)),(.r (gR r3 2))])
 .br (okR r4) (.br (ilt 0 (gI r4 10)) (.br (not (beq (gB r4 0) (gB r4 3))) (let r5:TR:=(zX [(.b true),(.i (gI r4 7)),(.r (gR r4 8)),(.b true),(.i 1),(.r (qcA (q3i 232 [(.i 0)]) 0 0 [(.i 1)]))])
 .br (okR r5) (let r6:TR:=(zX [(.b (gB r4 0)),(.i (gI r4 10)),(.r (gR r4 11)),(.b (gB r4 3)),(.i (gI r4 4)),(.r (gR r4 5))])
 .br (okR r6) (let r7:TR:=(qG [(.b (gB r5 0)),(.i (gI r5 1)),(.r (gR r5 2))])
 .br (okR r7) (let r8:TR:=(qG [(.b (gB r6 0)),(.i (gI r6 1)),(.r (gR r6 2))])
 .br (okR r8) (.leaf (0,[(.s (gS r7 0)),(.s (gS r8 0)),(.i 0)])) .fail) .fail) .fail) .fail) (let r5:TR:=(qG [(.b (not (beq (gB r4 0) (gB r4 3)))),(.i (gI r4 7)),(.r (gR r4 8))])
 .br (okR r5) (let r6:TR:=(qG [(.b (gB r4 0)),(.i (gI r4 10)),(.r (gR r4 11))])
 .br (okR r6) (.leaf (0,[(.s (gS r5 0)),(.s (gS r6 0)),(.i 0)])) .fail) .fail)) (let r5:TR:=(qG [(.b (not (beq (gB r4 0) (gB r4 3)))),(.i (gI r4 7)),(.r (gR r4 8))])
 .br (okR r5) (let r6:TR:=(qG [(.b (gB r4 0)),(.i (gI r4 10)),(.r (gR r4 11))])
 .br (okR r6) (.leaf (0,[(.s (gS r5 0)),(.s (gS r6 0)),(.i 0)])) .fail) .fail)) .fail) .fail) .fail)) .fail))) .fail):=by kernel_rfl
theorem qtS(x0:List UInt8)(x1:List UInt8):q6g [.s x0,.s x1]=(let r0:TR:=(q3G [(.s x0),(.s x1)])
 .br (okR r0) (.br (ine (gI r0 2) 0) (.leaf (0,[(.s []),(.i (gI r0 2))])) (let r1:TR:=(qJ [(.s (gS r0 0))])
 .br (okR r1) (.br (ine (gI r1 0) 0) (.leaf (0,[(.s []),(.i (gI r1 0))])) (.leaf (0,[(.s (gS r0 0)),(.i 0)]))) .fail)) .fail):=by kernel_rfl
theorem q9W(x0:List UInt8)(x1:List UInt8)(x2:Int):wx [.s x0,.s x1,.i x2]=(.br (ine x2 0) (.leaf (0,[(.s [48]),(.i x2)])) (let r0:TR:=(q23 [(.s x0),(.s x1)])
 .br (okR r0) (.br (ine (gI r0 1) 0) (.leaf (0,[(.s [48]),(.i (gI r0 1))])) (.leaf (0,[(.s (gS r0 0)),(.i (gI r0 1))]))) .fail)):=by kernel_rfl
theorem qa1(x0:List UInt8)(x1:List UInt8)(x2:Int):qQ [.s x0,.s x1,.i x2]=(.br (ine x2 0) (.leaf (0,[(.s [48]),(.i x2)])) (let r0:TR:=(q6g [(.s x0),(.s x1)])
 .br (okR r0) (.br (ine (gI r0 1) 0) (.leaf (0,[(.s [48]),(.i (gI r0 1))])) (.leaf (0,[(.s (gS r0 0)),(.i (gI r0 1))]))) .fail)):=by kernel_rfl
theorem qgp(x0:List UInt8)(x1:List UInt8)(x2:Int):qA [.s x0,.s x1,.i x2]=(let r0:TR:=(wx [(.s x0),(.s x1),(.i x2)])
 .br (okR r0) (let r1:TR:=(yP [(.s x1),(.s [45])])
 .br (okR r1) (.br (gB r1 0) (let r2:TR:=(zh [(.s [48]),(.s (gS r0 0)),(.i (gI r0 1))])
 .br (okR r2) (.br (ine (gI r2 1) 0) (.leaf (0,[(.s []),(.i (gI r2 1))])) (let r3:TR:=(qQ [(.s x0),(.s (gS r2 0)),(.i (gI r2 1))])
 .br (okR r3) (let r4:TR:=(qQ [(.s x1),(.s (gS r2 0)),(.i (gI r3 1))])
 .br (okR r4) (let r5:TR:=(q12 [(.s (gS r3 0)),(.s (gS r4 0))])
 .br (okR r5) (.leaf (0,[(.s (gS r5 0)),(.i (gI r4 1))])) .fail) .fail) .fail)) .fail) (.br (ine (gI r0 1) 0) (.leaf (0,[(.s []),(.i (gI r0 1))])) (let r2:TR:=(qQ [(.s x0),(.s (gS r0 0)),(.i (gI r0 1))])
 .br (okR r2) (let r3:TR:=(qQ [(.s x1),(.s (gS r0 0)),(.i (gI r2 1))])
 .br (okR r3) (let r4:TR:=(q12 [(.s (gS r2 0)),(.s (gS r3 0))])
 .br (okR r4) (.leaf (0,[(.s (gS r4 0)),(.i (gI r3 1))])) .fail) .fail) .fail))) .fail) .fail):=by kernel_rfl
theorem qaM(x0:List UInt8)(x1:List UInt8):v6 [.s x0,.s x1]=(let r0:TR:=(qP [(.r [[(.s x0)],[(.s x1)]])])
 .br (okR r0) (.br (ine (gI r0 0) 0) (.leaf (0,[(.s []),(.i (gI r0 0))])) (let r1:TR:=(qK [(.s x0)])
 .br (okR r1) (let r2:TR:=(qK [(.s x1)])
 .br (okR r2) (let r3:TR:=(q2M [(.s (gS r1 0)),(.s (gS r1 1)),(.s (gS r2 0)),(.s (gS r2 1)),(.i 0)])
 .br (okR r3) (.br (ine (gI r3 2) 0) (.leaf (0,[(.s []),(.i (gI r3 2))])) (.br (seq (gS r3 1) [48]) (.leaf (0,[(.s []),(.i 10)])) (let r4:TR:=(qA [(.s (gS r3 0)),(.s (gS r3 1)),(.i (gI r3 2))])
 .br (okR r4) (.leaf (0,[(.s (gS r4 0)),(.i (gI r4 1))])) .fail))) .fail) .fail) .fail)) .fail):=by kernel_rfl
theorem qup(x0:List UInt8)(x1:List UInt8):q5T [.s x0,.s x1]=(let r0:TR:=(v6 [(.s x0),(.s x1)])
 .br (okR r0) (.leaf (0,[(.s (gS r0 0)),(.i (gI r0 1))])) .fail):=by kernel_rfl
theorem qa3(x0:List UInt8)(x1:List UInt8)(x2:Int):wy [.s x0,.s x1,.i x2]=(.br (ine x2 0) (.leaf (0,[(.s [48]),(.i x2)])) (let r0:TR:=(q5T [(.s x0),(.s x1)])
 .br (okR r0) (.br (ine (gI r0 1) 0) (.leaf (0,[(.s [48]),(.i (gI r0 1))])) (.leaf (0,[(.s (gS r0 0)),(.i (gI r0 1))]))) .fail)):=by kernel_rfl
theorem ql5(x0:List UInt8)(x1:List UInt8)(x2:Int):qL [.s x0,.s x1,.i x2]=(let r0:TR:=(wy [(.s x0),(.s x1),(.i x2)])
 .br (okR r0) (.leaf (0,[(.s (gS r0 0)),(.i (gI r0 1))])) .fail):=by kernel_rfl
theorem qjN(x0:List UInt8)(x1:List UInt8)(x2:List UInt8)(x3:List UInt8)(x4:Int):zU [.s x0,.s x1,.s x2,.s x3,.i x4]=(let r0:TR:=(qL [(.s x0),(.s x2),(.i x4)])
 .br (okR r0) (let r1:TR:=(qL [(.s x1),(.s x3),(.i (gI r0 1))])
 .br (okR r1) (.leaf (0,[(.s (gS r0 0)),(.s (gS r1 0)),(.i (gI r1 1))])) .fail) .fail):=by kernel_rfl
theorem q9Z(x0:List UInt8)(x1:List UInt8)(x2:Int):wE [.s x0,.s x1,.i x2]=(.br (ine x2 0) (.leaf (0,[(.s [48]),(.i x2)])) (let r0:TR:=(q1U [(.s x0),(.s x1)])
 .br (okR r0) (.br (ine (gI r0 1) 0) (.leaf (0,[(.s [48]),(.i (gI r0 1))])) (.leaf (0,[(.s (gS r0 0)),(.i (gI r0 1))]))) .fail)):=by kernel_rfl
theorem qkp(x0:List UInt8)(x1:List UInt8)(x2:Int):jJ [.s x0,.s x1,.i x2]=(let r0:TR:=(wE [(.s x0),(.s x1),(.i x2)])
 .br (okR r0) (.leaf (0,[(.s (gS r0 0)),(.i (gI r0 1))])) .fail):=by kernel_rfl
theorem qq2(x0:List UInt8)(x1:List UInt8)(x2:List UInt8)(x3:List UInt8)(x4:Int):q2F [.s x0,.s x1,.s x2,.s x3,.i x4]=(let r0:TR:=(qf [(.r [[(.s x0)],[(.s x3)]]),(.i x4)])
 .br (okR r0) (let r1:TR:=(qf [(.r [[(.s x2)],[(.s x1)]]),(.i (gI r0 1))])
 .br (okR r1) (let r2:TR:=(jJ [(.s (gS r0 0)),(.s (gS r1 0)),(.i (gI r1 1))])
 .br (okR r2) (let r3:TR:=(qf [(.r [[(.s x1)],[(.s x3)]]),(.i (gI r2 1))])
 .br (okR r3) (.leaf (0,[(.s (gS r2 0)),(.s (gS r3 0)),(.i (gI r3 1))])) .fail) .fail) .fail) .fail):=by kernel_rfl
theorem qbx(x0:List UInt8)(x1:List UInt8):wQ [.s x0,.s x1]=(let r0:TR:=(qP [(.r [[(.s x0)],[(.s x1)]])])
 .br (okR r0) (.br (ine (gI r0 0) 0) (.leaf (0,[(.s []),(.i (gI r0 0))])) (let r1:TR:=(qK [(.s x0)])
 .br (okR r1) (let r2:TR:=(qK [(.s x1)])
 .br (okR r2) (let r3:TR:=(q2F [(.s (gS r1 0)),(.s (gS r1 1)),(.s (gS r2 0)),(.s (gS r2 1)),(.i 0)])
 .br (okR r3) (.br (ine (gI r3 2) 0) (.leaf (0,[(.s []),(.i (gI r3 2))])) (.br (seq (gS r3 1) [48]) (.leaf (0,[(.s []),(.i 10)])) (let r4:TR:=(qA [(.s (gS r3 0)),(.s (gS r3 1)),(.i (gI r3 2))])
 .br (okR r4) (.leaf (0,[(.s (gS r4 0)),(.i (gI r4 1))])) .fail))) .fail) .fail) .fail)) .fail):=by kernel_rfl
theorem qu3(x0:List UInt8)(x1:List UInt8):q6c [.s x0,.s x1]=(let r0:TR:=(wQ [(.s x0),(.s x1)])
 .br (okR r0) (.leaf (0,[(.s (gS r0 0)),(.i (gI r0 1))])) .fail):=by kernel_rfl
theorem qa4(x0:List UInt8)(x1:List UInt8)(x2:Int):wC [.s x0,.s x1,.i x2]=(.br (ine x2 0) (.leaf (0,[(.s [48]),(.i x2)])) (let r0:TR:=(q6c [(.s x0),(.s x1)])
 .br (okR r0) (.br (ine (gI r0 1) 0) (.leaf (0,[(.s [48]),(.i (gI r0 1))])) (.leaf (0,[(.s (gS r0 0)),(.i (gI r0 1))]))) .fail)):=by kernel_rfl
theorem qkk(x0:List UInt8)(x1:List UInt8)(x2:Int):zv [.s x0,.s x1,.i x2]=(let r0:TR:=(wC [(.s x0),(.s x1),(.i x2)])
 .br (okR r0) (.leaf (0,[(.s (gS r0 0)),(.i (gI r0 1))])) .fail):=by kernel_rfl
theorem qp4(x0:List UInt8)(x1:List UInt8)(x2:List UInt8)(x3:List UInt8)(x4:Int):q2A [.s x0,.s x1,.s x2,.s x3,.i x4]=(let r0:TR:=(qf [(.r [[(.s x0)],[(.s x2)]]),(.i x4)])
 .br (okR r0) (let r1:TR:=(qf [(.r [[(.s x1)],[(.s x3)]]),(.i (gI r0 1))])
 .br (okR r1) (.leaf (0,[(.s (gS r0 0)),(.s (gS r1 0)),(.i (gI r1 1))])) .fail) .fail):=by kernel_rfl
theorem qbt(x0:List UInt8)(x1:List UInt8):wW [.s x0,.s x1]=(let r0:TR:=(qP [(.r [[(.s x0)],[(.s x1)]])])
 .br (okR r0) (.br (ine (gI r0 0) 0) (.leaf (0,[(.s []),(.i (gI r0 0))])) (let r1:TR:=(qK [(.s x0)])
 .br (okR r1) (let r2:TR:=(qK [(.s x1)])
 .br (okR r2) (let r3:TR:=(q2A [(.s (gS r1 0)),(.s (gS r1 1)),(.s (gS r2 0)),(.s (gS r2 1)),(.i 0)])
 .br (okR r3) (.br (ine (gI r3 2) 0) (.leaf (0,[(.s []),(.i (gI r3 2))])) (.br (seq (gS r3 1) [48]) (.leaf (0,[(.s []),(.i 10)])) (let r4:TR:=(qA [(.s (gS r3 0)),(.s (gS r3 1)),(.i (gI r3 2))])
 .br (okR r4) (.leaf (0,[(.s (gS r4 0)),(.i (gI r4 1))])) .fail))) .fail) .fail) .fail)) .fail):=by kernel_rfl
theorem qtQ(x0:List UInt8)(x1:List UInt8):q5Y [.s x0,.s x1]=(let r0:TR:=(wW [(.s x0),(.s x1)])
 .br (okR r0) (.leaf (0,[(.s (gS r0 0)),(.i (gI r0 1))])) .fail):=by kernel_rfl
theorem qa0(x0:List UInt8)(x1:List UInt8)(x2:Int):wA [.s x0,.s x1,.i x2]=(.br (ine x2 0) (.leaf (0,[(.s [48]),(.i x2)])) (let r0:TR:=(q5Y [(.s x0),(.s x1)])
 .br (okR r0) (.br (ine (gI r0 1) 0) (.leaf (0,[(.s [48]),(.i (gI r0 1))])) (.leaf (0,[(.s (gS r0 0)),(.i (gI r0 1))]))) .fail)):=by kernel_rfl
theorem qlb(x0:List UInt8)(x1:List UInt8)(x2:Int):qR [.s x0,.s x1,.i x2]=(let r0:TR:=(wA [(.s x0),(.s x1),(.i x2)])
 .br (okR r0) (.leaf (0,[(.s (gS r0 0)),(.i (gI r0 1))])) .fail):=by kernel_rfl
theorem qkx(x0:List UInt8)(x1:List UInt8)(x2:List UInt8)(x3:List UInt8)(x4:Int):zx [.s x0,.s x1,.s x2,.s x3,.i x4]=(let r0:TR:=(qR [(.s x0),(.s x2),(.i x4)])
 .br (okR r0) (let r1:TR:=(qR [(.s x1),(.s x3),(.i (gI r0 1))])
 .br (okR r1) (let r2:TR:=(zv [(.s (gS r0 0)),(.s (gS r1 0)),(.i (gI r1 1))])
 .br (okR r2) (.leaf (0,[(.s (gS r2 0)),(.i (gI r2 1))])) .fail) .fail) .fail):=by kernel_rfl
theorem qpB(x0:List UInt8)(x1:List UInt8)(x2:List UInt8)(x3:List UInt8)(x4:Int):q2Y [.s x0,.s x1,.s x2,.s x3,.i x4]=(let r0:TR:=(qf [(.r [[(.s x0)],[(.s x3)]]),(.i x4)])
 .br (okR r0) (let r1:TR:=(qf [(.r [[(.s x1)],[(.s x2)]]),(.i (gI r0 1))])
 .br (okR r1) (.leaf (0,[(.s (gS r0 0)),(.s (gS r1 0)),(.i (gI r1 1))])) .fail) .fail):=by kernel_rfl
theorem qb8(x0:List UInt8)(x1:List UInt8):wZ [.s x0,.s x1]=(let r0:TR:=(qP [(.r [[(.s x0)],[(.s x1)]])])
 .br (okR r0) (.br (ine (gI r0 0) 0) (.leaf (0,[(.s []),(.i (gI r0 0))])) (let r1:TR:=(qK [(.s x0)])
 .br (okR r1) (let r2:TR:=(qK [(.s x1)])
 .br (okR r2) (let r3:TR:=(q2Y [(.s (gS r1 0)),(.s (gS r1 1)),(.s (gS r2 0)),(.s (gS r2 1)),(.i 0)])
 .br (okR r3) (.br (ine (gI r3 2) 0) (.leaf (0,[(.s []),(.i (gI r3 2))])) (.br (seq (gS r3 1) [48]) (.leaf (0,[(.s []),(.i 10)])) (let r4:TR:=(qA [(.s (gS r3 0)),(.s (gS r3 1)),(.i (gI r3 2))])
 .br (okR r4) (.leaf (0,[(.s (gS r4 0)),(.i (gI r4 1))])) .fail))) .fail) .fail) .fail)) .fail):=by kernel_rfl
theorem qsP(x0:List UInt8)(x1:List UInt8):q6b [.s x0,.s x1]=(let r0:TR:=(qP [(.r [[(.s x0)],[(.s x1)]])])
 .br (okR r0) (.br (ine (gI r0 0) 0) (.leaf (0,[(.s []),(.i (gI r0 0))])) (.br (seq x1 [48]) (.leaf (0,[(.s []),(.i 10)])) (let r1:TR:=(wZ [(.s x0),(.s x1)])
 .br (okR r1) (.leaf (0,[(.s (gS r1 0)),(.i (gI r1 1))])) .fail))) .fail):=by kernel_rfl
theorem q9Y(x0:List UInt8)(x1:List UInt8)(x2:Int):zB [.s x0,.s x1,.i x2]=(.br (ine x2 0) (.leaf (0,[(.s [48]),(.i x2)])) (let r0:TR:=(q6b [(.s x0),(.s x1)])
 .br (okR r0) (.br (ine (gI r0 1) 0) (.leaf (0,[(.s [48]),(.i (gI r0 1))])) (.leaf (0,[(.s (gS r0 0)),(.i (gI r0 1))]))) .fail)):=by kernel_rfl
theorem qhO(x0:R)(x1:Int)(x2:Int)(x3:Int)(x4:Int):vz [.r x0,.i x1,.i x2,.i x3,.i x4]=(.br (inb x1 (qj x0)) (.br (inb x2 (qj x0)) (.br (ieq x1 x2) (.leaf (0,[(.s (cS x0 x1 0)),(.s (cS x0 x1 1)),(.s [48]),(.s [48]),(.s [48]),(.b (ieq x3 0)),(.i x4)])) (let r0:TR:=(zU [(.s (cS x0 x2 0)),(.s (cS x0 x2 1)),(.s (cS x0 x1 0)),(.s (cS x0 x1 1)),(.i x4)])
 .br (okR r0) (let r1:TR:=(zx [(.s (gS r0 0)),(.s (gS r0 1)),(.s (gS r0 0)),(.s (gS r0 1)),(.i (gI r0 2))])
 .br (okR r1) (.br (seq (gS r1 0) [48]) (.leaf (0,[(.s []),(.s []),(.s []),(.s []),(.s []),(.b false),(.i (gI r1 1))])) (let r2:TR:=(zv [(.s (gS r1 0)),(.s (cS x0 x1 2)),(.i (gI r1 1))])
 .br (okR r2) (let r3:TR:=(qL [(.s (gS r2 0)),(.s (cS x0 x2 2)),(.i (gI r2 1))])
 .br (okR r3) (let r4:TR:=(qR [(.s [50]),(.s (gS r1 0)),(.i (gI r3 1))])
 .br (okR r4) (let r5:TR:=(zB [(.s (gS r3 0)),(.s (gS r4 0)),(.i (gI r4 1))])
 .br (okR r5) (let r6:TR:=(qR [(.s (gS r5 0)),(.s (gS r0 0)),(.i (gI r5 1))])
 .br (okR r6) (let r7:TR:=(zv [(.s (cS x0 x1 0)),(.s (gS r6 0)),(.i (gI r6 1))])
 .br (okR r7) (let r8:TR:=(qR [(.s (gS r5 0)),(.s (gS r0 1)),(.i (gI r7 1))])
 .br (okR r8) (let r9:TR:=(zv [(.s (cS x0 x1 1)),(.s (gS r8 0)),(.i (gI r8 1))])
 .br (okR r9) (let r10:TR:=(qL [(.s [48]),(.s (gS r0 1)),(.i (gI r9 1))])
 .br (okR r10) (let r11:TR:=(zB [(.s (cS x0 x1 2)),(.s (gS r1 0)),(.i (gI r10 1))])
 .br (okR r11) (let r12:TR:=(qR [(.s (gS r5 0)),(.s (gS r5 0)),(.i (gI r11 1))])
 .br (okR r12) (let r13:TR:=(qL [(.s (gS r11 0)),(.s (gS r12 0)),(.i (gI r12 1))])
 .br (okR r13) (.br (ilt x3 0) (let r14:TR:=(qL [(.s [48]),(.s (gS r0 0)),(.i (gI r13 1))])
 .br (okR r14) (.br (ieq (gI r14 1) 0) (.br (inb 0 (qm (gS r13 0))) (.br (ine (sat (gS r13 0) 0) 45) (.leaf (0,[(.s (gS r7 0)),(.s (gS r9 0)),(.s (gS r0 1)),(.s (gS r14 0)),(.s (gS r13 0)),(.b (beq (seq (gS r13 0) [48]) (ieq x3 0))),(.i (gI r14 1))])) (.leaf (0,[(.s (gS r7 0)),(.s (gS r9 0)),(.s (gS r0 1)),(.s (gS r14 0)),(.s (gS r13 0)),(.b false),(.i (gI r14 1))]))) .fail) (.leaf (0,[(.s (gS r7 0)),(.s (gS r9 0)),(.s (gS r0 1)),(.s (gS r14 0)),(.s (gS r13 0)),(.b false),(.i (gI r14 1))]))) .fail) (.br (ieq (gI r13 1) 0) (.br (inb 0 (qm (gS r13 0))) (.br (ine (sat (gS r13 0) 0) 45) (.leaf (0,[(.s (gS r7 0)),(.s (gS r9 0)),(.s (gS r10 0)),(.s (gS r0 0)),(.s (gS r13 0)),(.b (beq (seq (gS r13 0) [48]) (ieq x3 0))),(.i (gI r13 1))])) (.leaf (0,[(.s (gS r7 0)),(.s (gS r9 0)),(.s (gS r10 0)),(.s (gS r0 0)),(.s (gS r13 0)),(.b false),(.i (gI r13 1))]))) .fail) (.leaf (0,[(.s (gS r7 0)),(.s (gS r9 0)),(.s (gS r10 0)),(.s (gS r0 0)),(.s (gS r13 0)),(.b false),(.i (gI r13 1))])))) .fail) .fail) .fail) .fail) .fail) .fail) .fail) .fail) .fail) .fail) .fail) .fail)) .fail) .fail)) .fail) .fail):=by kernel_rfl
theorem qrR(x0:List UInt8):q6I [.s x0]=(let r0:TR:=(qJ [(.s x0)])
 .br (okR r0) (.br (ine (gI r0 0) 0) (.leaf (0,[(.i 0),(.i (gI r0 0))])) (let r1:TR:=(yk [(.s x0)])
 .br (okR r1) (.leaf (0,[(.i (gI r1 0)),(.i 0)])) .fail)) .fail):=by kernel_rfl
theorem qjk(x0:List UInt8)(x1:Int):zj [.s x0,.i x1]=(.br (ine x1 0) (.leaf (0,[(.i 0),(.i x1)])) (let r0:TR:=(q6I [(.s x0)])
 .br (okR r0) (.leaf (0,[(.i (gI r0 0)),(.i (gI r0 1))])) .fail)):=by kernel_rfl
theorem qk4(x0:List UInt8)(x1:List UInt8)(x2:List UInt8)(x3:Int):yJ [.s x0,.s x1,.s x2,.i x3]=(let r0:TR:=(zj [(.s x0),(.i x3)])
 .br (okR r0) (let r1:TR:=(zj [(.s x1),(.i (gI r0 1))])
 .br (okR r1) (let r2:TR:=(zj [(.s x2),(.i (gI r1 1))])
 .br (okR r2) (.br (ile 0 (u7 .i64 (gI r0 0) (u7 .i64 (gI r1 0) (gI r2 0)))) (.br (ine (gI r0 0) 0) (.leaf (0,[(.i (gI r0 0)),(.i (gI r2 1))])) (.leaf (0,[(.i (u7 .i64 (gI r1 0) (gI r2 0))),(.i (gI r2 1))]))) (let r3:TR:=(qf [(.r [[(.s x0)],[(.s x0)]]),(.i (gI r2 1))])
 .br (okR r3) (let r4:TR:=(qf [(.r [[(.s x1)],[(.s x1)],[(.s x2)]]),(.i (gI r3 1))])
 .br (okR r4) (let r5:TR:=(zh [(.s (gS r3 0)),(.s (gS r4 0)),(.i (gI r4 1))])
 .br (okR r5) (let r6:TR:=(zj [(.s (gS r5 0)),(.i (gI r5 1))])
 .br (okR r6) (.leaf (0,[(.i (u7 .i64 (gI r0 0) (gI r6 0))),(.i (gI r6 1))])) .fail) .fail) .fail) .fail)) .fail) .fail) .fail):=by kernel_rfl
theorem qj5(x0:List UInt8)(x1:List UInt8)(x2:List UInt8)(x3:List UInt8)(x4:List UInt8):q05 [.s x0,.s x1,.s x2,.s x3,.s x4]=(let r0:TR:=(qP [(.r [[(.s x0)],[(.s x1)],[(.s x2)],[(.s x3)],[(.s x4)]])])
 .br (okR r0) (.br (ine (gI r0 0) 0) (.leaf (0,[(.i 0),(.i (gI r0 0))])) (.br (inb 0 (qm x2)) (.br (ieq (sat x2 0) 45) (.leaf (0,[(.i 0),(.i 2)])) (.br (inb 0 (qm x4)) (.br (ieq (sat x4 0) 45) (.leaf (0,[(.i 0),(.i 2)])) (let r1:TR:=(qK [(.s x0)])
 .br (okR r1) (let r2:TR:=(qK [(.s x1)])
 .br (okR r2) (let r3:TR:=(qK [(.s x2)])
 .br (okR r3) (let r4:TR:=(qK [(.s x3)])
 .br (okR r4) (let r5:TR:=(qK [(.s x4)])
 .br (okR r5) (let r6:TR:=(qf [(.r [[(.s (gS r1 0))],[(.s (gS r2 1))],[(.s (gS r3 1))],[(.s (gS r4 1))],[(.s (gS r5 1))]]),(.i 0)])
 .br (okR r6) (let r7:TR:=(qf [(.r [[(.s (gS r2 0))],[(.s (gS r1 1))],[(.s (gS r4 1))],[(.s (gS r5 1))]]),(.i (gI r6 1))])
 .br (okR r7) (let r8:TR:=(qf [(.r [[(.s (gS r3 0))],[(.s (gS r3 1))]]),(.i (gI r7 1))])
 .br (okR r8) (let r9:TR:=(qf [(.r [[(.s (gS r4 0))],[(.s (gS r1 1))],[(.s (gS r2 1))],[(.s (gS r3 1))]]),(.i (gI r8 1))])
 .br (okR r9) (let r10:TR:=(qf [(.r [[(.s (gS r5 0))],[(.s (gS r5 1))]]),(.i (gI r9 1))])
 .br (okR r10) (let r11:TR:=(yJ [(.s (gS r6 0)),(.s (gS r7 0)),(.s (gS r8 0)),(.i (gI r10 1))])
 .br (okR r11) (let r12:TR:=(zj [(.s (gS r9 0)),(.i (gI r11 1))])
 .br (okR r12) (let r13:TR:=(zj [(.s (gS r10 0)),(.i (gI r12 1))])
 .br (okR r13) (.br (ile 0 (u7 .i64 (gI r11 0) (u7 .i64 (gI r12 0) (gI r13 0)))) (.br (ieq (gI r11 0) 0) (.leaf (0,[(.i (u7 .i64 (gI r12 0) (gI r13 0))),(.i (gI r13 1))])) (.leaf (0,[(.i (gI r11 0)),(.i (gI r13 1))]))) (let r14:TR:=(qf [(.r [[(.s (gS r6 0))],[(.s (gS r6 0))]]),(.i (gI r13 1))])
 .br (okR r14) (let r15:TR:=(qf [(.r [[(.s (gS r7 0))],[(.s (gS r7 0))],[(.s (gS r8 0))]]),(.i (gI r14 1))])
 .br (okR r15) (let r16:TR:=(jJ [(.s (gS r14 0)),(.s (gS r15 0)),(.i (gI r15 1))])
 .br (okR r16) (let r17:TR:=(qf [(.r [[(.s (gS r9 0))],[(.s (gS r9 0))],[(.s (gS r10 0))]]),(.i (gI r16 1))])
 .br (okR r17) (let r18:TR:=(zh [(.s (gS r16 0)),(.s (gS r17 0)),(.i (gI r17 1))])
 .br (okR r18) (let r19:TR:=(qf [(.r [[(.s [50])],[(.s (gS r6 0))],[(.s (gS r7 0))]]),(.i (gI r18 1))])
 .br (okR r19) (let r20:TR:=(yJ [(.s (gS r18 0)),(.s (gS r19 0)),(.s (gS r8 0)),(.i (gI r19 1))])
 .br (okR r20) (.br (ine (gI r20 1) 0) (.leaf (0,[(.i 0),(.i (gI r20 1))])) (.leaf (0,[(.i (u7 .i64 (gI r11 0) (gI r20 0))),(.i 0)]))) .fail) .fail) .fail) .fail) .fail) .fail) .fail)) .fail) .fail) .fail) .fail) .fail) .fail) .fail) .fail) .fail) .fail) .fail) .fail) .fail)) .fail)) .fail)) .fail):=by kernel_rfl
theorem qlc(x0:List UInt8)(x1:List UInt8)(x2:List UInt8):q0T [.s x0,.s x1,.s x2]=(let r0:TR:=(q05 [(.s x0),(.s x1),(.s x2),(.s [48]),(.s [48])])
 .br (okR r0) (.leaf (0,[(.i (gI r0 0)),(.i (gI r0 1))])) .fail):=by kernel_rfl
theorem qiY(x0:List UInt8)(x1:List UInt8)(x2:List UInt8)(x3:Int):vR [.s x0,.s x1,.s x2,.i x3]=(.br (ine x3 0) (.leaf (0,[(.i 0),(.i x3)])) (let r0:TR:=(q0T [(.s x0),(.s x1),(.s x2)])
 .br (okR r0) (.leaf (0,[(.i (gI r0 0)),(.i (gI r0 1))])) .fail)):=by kernel_rfl
theorem qhK(x0:List UInt8)(x1:List UInt8)(x2:List UInt8)(x3:List UInt8)(x4:List UInt8)(x5:List UInt8)(x6:List UInt8)(x7:List UInt8)(x8:Int):jB [.s x0,.s x1,.s x2,.s x3,.s x4,.s x5,.s x6,.s x7,.i x8]=(let r0:TR:=(zU [(.s x3),(.s x4),(.s x0),(.s x1),(.i x8)])
 .br (okR r0) (let r1:TR:=(zx [(.s (gS r0 0)),(.s (gS r0 1)),(.s (gS r0 0)),(.s (gS r0 1)),(.i (gI r0 2))])
 .br (okR r1) (let r2:TR:=(zx [(.s x5),(.s x6),(.s x5),(.s x6),(.i (gI r1 1))])
 .br (okR r2) (let r3:TR:=(qR [(.s x7),(.s (gS r2 0)),(.i (gI r2 1))])
 .br (okR r3) (let r4:TR:=(zv [(.s (gS r1 0)),(.s (gS r3 0)),(.i (gI r3 1))])
 .br (okR r4) (let r5:TR:=(qL [(.s (gS r4 0)),(.s x2),(.i (gI r4 1))])
 .br (okR r5) (let r6:TR:=(zx [(.s (gS r0 0)),(.s (gS r0 1)),(.s x5),(.s x6),(.i (gI r5 1))])
 .br (okR r6) (let r7:TR:=(qR [(.s [50]),(.s (gS r6 0)),(.i (gI r6 1))])
 .br (okR r7) (let r8:TR:=(vR [(.s (gS r5 0)),(.s (gS r7 0)),(.s x7),(.i (gI r7 1))])
 .br (okR r8) (.leaf (0,[(.b (ile (gI r8 0) 0)),(.i (gI r8 1))])) .fail) .fail) .fail) .fail) .fail) .fail) .fail) .fail) .fail):=by kernel_rfl
theorem yY(y0:R)(y1:Int)(y2:Int)(y3:R)(y4:R)(y5:R)(y6:Int)(y7:Int)(y8:Int)(y9:Bool)(y10:List UInt8)(y11:List UInt8)(y12:List UInt8)(y13:List UInt8)(y14:List UInt8)(y15:Bool)(y16:R)(y17:Int)(y18:Int)(y19:Int)(y20:List UInt8)(y21:List UInt8)(y22:List UInt8)(y23:List UInt8)(y24:List UInt8)(y25:Bool)(y26:List UInt8)(y27:List UInt8)(y28:List UInt8)(y29:List UInt8)(y30:List UInt8)(y31:Bool)(y32:Bool)(y33:R)(y34:Int)(y35:Int)(y36:Int)(y37:Int)(y38:List UInt8)(y39:List UInt8)(y40:List UInt8)(y41:List UInt8)(y42:List UInt8):wz [.r y0,.i y1,.i y2,.r y3,.r y4,.r y5,.i y6,.i y7,.i y8,.b y9,.s y10,.s y11,.s y12,.s y13,.s y14,.b y15,.r y16,.i y17,.i y18,.i y19,.s y20,.s y21,.s y22,.s y23,.s y24,.b y25,.s y26,.s y27,.s y28,.s y29,.s y30,.b y31,.b y32,.r y33,.i y34,.i y35,.i y36,.i y37,.s y38,.s y39,.s y40,.s y41,.s y42]=(.br (ilt y2 y1) (.br (inb y2 (qj y0)) (let r0:TR:=(jB [(.s (cS y0 y2 0)),(.s (cS y0 y2 1)),(.s (cS y0 y2 2)),(.s y38),(.s y39),(.s y40),(.s y41),(.s y42),(.i y34)])
 .br (okR r0) (.br (not (gB r0 0)) (.leaf (2,[(.i y2),(.r y3),(.r y4),(.r y5),(.i y6),(.i y7),(.i y8),(.b y9),(.s y10),(.s y11),(.s y12),(.s y13),(.s y14),(.b y15),(.r y16),(.i y17),(.i y18),(.i y19),(.s y20),(.s y21),(.s y22),(.s y23),(.s y24),(.b y25),(.s y26),(.s y27),(.s y28),(.s y29),(.s y30),(.b y31),(.b y32),(.r y33),(.i (gI r0 1)),(.i y35),(.i y36),(.i y37),(.s y38),(.s y39),(.s y40),(.s y41),(.s y42)])) (.leaf (0,[(.r y0),(.i y1),(.i (qh .i64 y2 1)),(.r y3),(.r y4),(.r y5),(.i y6),(.i y7),(.i y8),(.b y9),(.s y10),(.s y11),(.s y12),(.s y13),(.s y14),(.b y15),(.r y16),(.i y17),(.i y18),(.i y19),(.s y20),(.s y21),(.s y22),(.s y23),(.s y24),(.b y25),(.s y26),(.s y27),(.s y28),(.s y29),(.s y30),(.b y31),(.b y32),(.r y33),(.i (gI r0 1)),(.i y35),(.i y36),(.i y37),(.s y38),(.s y39),(.s y40),(.s y41),(.s y42)]))) .fail) .fail) (.leaf (1,[(.r y3),(.r y4),(.r y5),(.i y6),(.i y7),(.i y8),(.b y9),(.s y10),(.s y11),(.s y12),(.s y13),(.s y14),(.b y15),(.r y16),(.i y17),(.i y18),(.i y19),(.s y20),(.s y21),(.s y22),(.s y23),(.s y24),(.b y25),(.s y26),(.s y27),(.s y28),(.s y29),(.s y30),(.b y31),(.b y32),(.r y33),(.i y34),(.i y35),(.i y36),(.i y37),(.s y38),(.s y39),(.s y40),(.s y41),(.s y42)]))):=by kernel_rfl
theorem qgA(x0:R)(x1:Int)(x2:Int)(x3:Int)(x4:Int):ze [.r x0,.i x1,.i x2,.i x3,.i x4]=(let r0:TR:=(vz [(.r x0),(.i x1),(.i x2),(.i x3),(.i x4)])
 .br (okR r0) (.br (gB r0 5) (let r1:TR:=(qg wz [(.r x0),(.i (qj x0)),(.i 0),(.r x0),(.r x0),(.r x0),(.i x1),(.i x2),(.i x3),(.b (gB r0 5)),(.s (gS r0 0)),(.s (gS r0 1)),(.s (gS r0 2)),(.s (gS r0 3)),(.s (gS r0 4)),(.b (gB r0 5)),(.r x0),(.i x1),(.i x2),(.i x3),(.s (gS r0 0)),(.s (gS r0 1)),(.s (gS r0 2)),(.s (gS r0 3)),(.s (gS r0 4)),(.b (gB r0 5)),(.s (gS r0 0)),(.s (gS r0 1)),(.s (gS r0 2)),(.s (gS r0 3)),(.s (gS r0 4)),(.b (gB r0 5)),(.b (gB r0 5)),(.r x0),(.i (gI r0 6)),(.i x1),(.i x2),(.i x3),(.s (gS r0 0)),(.s (gS r0 1)),(.s (gS r0 2)),(.s (gS r0 3)),(.s (gS r0 4))])
 .br (okR r1) (.br (jIs r1 0) (.leaf (0,[(.b (ieq (gI r1 31) 0)),(.i (gI r1 31))])) (.br (not (ile 0 (gI r1 0))) (.leaf (0,[(.b (ieq (gI r1 32) 0)),(.i (gI r1 32))])) (.leaf (0,[(.b false),(.i (gI r1 32))])))) .fail) (.leaf (0,[(.b false),(.i (gI r0 6))]))) .fail):=by kernel_rfl
theorem q3z(y0:Int)(y1:Int)(y2:Int)(y3:R)(y4:Int)(y5:Int)(y6:Int)(y7:Bool)(y8:Int):v7 [.i y0,.i y1,.i y2,.r y3,.i y4,.i y5,.i y6,.b y7,.i y8]=(.br (ilt y1 y0) (let r0:TR:=(ze [(.r y3),(.i y1),(.i y1),(.i 0),(.i y2)])
 .br (okR r0) (.br (gB r0 0) (.leaf (2,[(.i (gI r0 1)),(.r y3),(.i y1),(.i y1),(.i 0),(.b true),(.i y8)])) (.leaf (0,[(.i y0),(.i (qh .i64 y1 1)),(.i (gI r0 1)),(.r y3),(.i y4),(.i y5),(.i y6),(.b y7),(.i y8)]))) .fail) (.leaf (1,[(.i y2),(.r y3),(.i y4),(.i y5),(.i y6),(.b y7),(.i y8)]))):=by kernel_rfl
theorem q36(y0:Int)(y1:Int)(y2:Int)(y3:Int)(y4:Int)(y5:Int)(y6:Int)(y7:R)(y8:Int)(y9:Int)(y10:Int)(y11:Bool)(y12:Int)(y13:R):wB [.i y0,.i y1,.i y2,.i y3,.i y4,.i y5,.i y6,.r y7,.i y8,.i y9,.i y10,.b y11,.i y12,.r y13]=(.br (ilt y5 y4) (.br (inb y5 (qj y13)) (let r0:TR:=(ze [(.r y7),(.i y0),(.i y1),(.i (cI y13 y5 0)),(.i y6)])
 .br (okR r0) (.br (gB r0 0) (.leaf (2,[(.i (gI r0 1)),(.r y7),(.i y0),(.i y1),(.i (cI y13 y5 0)),(.b true),(.i y12)])) (.leaf (0,[(.i y0),(.i y1),(.i y2),(.i y3),(.i y4),(.i (qh .i64 y5 1)),(.i (gI r0 1)),(.r y7),(.i y8),(.i y9),(.i y10),(.b y11),(.i y12),(.r y13)]))) .fail) .fail) (.leaf (1,[(.i y0),(.i y1),(.i y2),(.i y3),(.i y6),(.r y7),(.i y8),(.i y9),(.i y10),(.b y11),(.i y12)]))):=by kernel_rfl
theorem q37(y0:Int)(y1:Int)(y2:Int)(y3:Int)(y4:Int)(y5:R)(y6:Int)(y7:Int)(y8:Int)(y9:Bool)(y10:Int):wt [.i y0,.i y1,.i y2,.i y3,.i y4,.r y5,.i y6,.i y7,.i y8,.b y9,.i y10]=(.br (ilt y1 y10) (let r0:TR:=(qg wB [(.i y0),(.i y1),(.i y2),(.i y3),(.i (qj [[(.i 0)],[(.i 1)],[(.i (-1))]])),(.i 0),(.i y4),(.r y5),(.i y6),(.i y7),(.i y8),(.b y9),(.i y10),(.r [[(.i 0)],[(.i 1)],[(.i (-1))]])])
 .br (okR r0) (.br (jIs r0 0) (.leaf (0,[(.i (gI r0 0)),(.i (qh .i64 (gI r0 1) 1)),(.i (gI r0 2)),(.i (gI r0 3)),(.i (gI r0 4)),(.r (gR r0 5)),(.i (gI r0 6)),(.i (gI r0 7)),(.i (gI r0 8)),(.b (gB r0 9)),(.i (gI r0 10))])) (.leaf (2,[(.i (gI r0 0)),(.r (gR r0 1)),(.i (gI r0 2)),(.i (gI r0 3)),(.i (gI r0 4)),(.b (gB r0 5)),(.i (gI r0 6))]))) .fail) (.leaf (1,[(.i y2),(.i y3),(.i y4),(.r y5),(.i y6),(.i y7),(.i y8),(.b y9),(.i y10)]))):=by kernel_rfl
theorem q3K(y0:Int)(y1:Int)(y2:Int)(y3:R)(y4:Int)(y5:Int)(y6:Int)(y7:Bool)(y8:Int):wS [.i y0,.i y1,.i y2,.r y3,.i y4,.i y5,.i y6,.b y7,.i y8]=(.br (ilt y1 y0) (let r0:TR:=(qg wt [(.i y1),(.i (qh .i64 y1 1)),(.i y0),(.i y1),(.i y2),(.r y3),(.i y4),(.i y5),(.i y6),(.b y7),(.i y8)])
 .br (okR r0) (.br (jIs r0 0) (.leaf (0,[(.i (gI r0 0)),(.i (qh .i64 (gI r0 1) 1)),(.i (gI r0 2)),(.r (gR r0 3)),(.i (gI r0 4)),(.i (gI r0 5)),(.i (gI r0 6)),(.b (gB r0 7)),(.i (gI r0 8))])) (.leaf (2,[(.i (gI r0 0)),(.r (gR r0 1)),(.i (gI r0 2)),(.i (gI r0 3)),(.i (gI r0 4)),(.b (gB r0 5)),(.i (gI r0 6))]))) .fail) (.leaf (1,[(.i y2),(.r y3),(.i y4),(.i y5),(.i y6),(.b y7),(.i y8)]))):=by kernel_rfl
theorem qhD(x0:R)(x1:Int):qC [.r x0,.i x1]=(let r0:TR:=(qg v7 [(.i (qj x0)),(.i 0),(.i x1),(.r x0),(.i 0),(.i 0),(.i 0),(.b false),(.i (qj x0))])
 .br (okR r0) (.br (jIs r0 0) (let r1:TR:=(qg wS [(.i (gI r0 6)),(.i 0),(.i (gI r0 0)),(.r (gR r0 1)),(.i (gI r0 2)),(.i (gI r0 3)),(.i (gI r0 4)),(.b (gB r0 5)),(.i (gI r0 6))])
 .br (okR r1) (.br (jIs r1 0) (.leaf (0,[(.i 0),(.i 0),(.i 0),(.b false),(.i (gI r1 0))])) (.leaf (0,[(.i (gI r1 2)),(.i (gI r1 3)),(.i (gI r1 4)),(.b (gB r1 5)),(.i (gI r1 0))]))) .fail) (.leaf (0,[(.i (gI r0 2)),(.i (gI r0 3)),(.i (gI r0 4)),(.b (gB r0 5)),(.i (gI r0 0))]))) .fail):=by kernel_rfl
theorem q0m(y0:Int)(y1:Int)(y2:Int)(y3:Int)(y4:Int)(y5:Int)(y6:Int)(y7:R)(y8:Int)(y9:Int)(y10:Int)(y11:R)(y12:Int)(y13:R)(y14:R):qU [.i y0,.i y1,.i y2,.i y3,.i y4,.i y5,.i y6,.r y7,.i y8,.i y9,.i y10,.r y11,.i y12,.r y13,.r y14]=(.br (ilt y1 y0) (.br (inb y1 (qj y13)) (.br (inb (cI y13 y1 0) (qj y11)) (.br (ile ((qj y14)+(qj [[(.s (cS y11 (cI y13 y1 0) 0)),(.s (cS y11 (cI y13 y1 0) 1)),(.s (cS y11 (cI y13 y1 0) 2))]])) 2932031007402) (.leaf (0,[(.i y0),(.i (qh .i64 y1 1)),(.i y2),(.i y3),(.i y4),(.i y5),(.i y6),(.r y7),(.i y8),(.i y9),(.i y10),(.r y11),(.i y12),(.r y13),(.r (qc3 y14 [[(.s (cS y11 (cI y13 y1 0) 0)),(.s (cS y11 (cI y13 y1 0) 1)),(.s (cS y11 (cI y13 y1 0) 2))]]))])) .fail) .fail) .fail) (.leaf (1,[(.i y2),(.i y3),(.i y4),(.i y5),(.i y6),(.r y7),(.i y8),(.i y9),(.i y10),(.r y11),(.i y12),(.r y13),(.r y14)]))):=by kernel_rfl
theorem q3w(y0:Int)(y1:Int)(y2:Int)(y3:Int)(y4:R)(y5:Int):v8 [.i y0,.i y1,.i y2,.i y3,.r y4,.i y5]=(.br (ilt y1 (qj y4)) (let r0:TR:=(qg qU [(.i (qj [[(.i y0)],[(.i y1)]])),(.i 0),(.i y0),(.i y1),(.i y2),(.i y3),(.i y1),(.r y4),(.i (qj y4)),(.i y0),(.i y1),(.r y4),(.i y5),(.r [[(.i y0)],[(.i y1)]]),(.r [])])
 .br (okR r0) (let r1:TR:=(qC [(.r (gR r0 12)),(.i (gI r0 10))])
 .br (okR r1) (.br (not (gB r1 3)) (.br (ieq (gI r1 4) 0) (.leaf (2,[(.i 0),(.r [[(.i (gI r0 0))],[(.i (gI r0 1))]])])) (.leaf (0,[(.i (gI r0 0)),(.i (qh .i64 (gI r0 1) 1)),(.i (gI r0 2)),(.i (gI r0 3)),(.r (gR r0 9)),(.i (gI r1 4))]))) (.leaf (0,[(.i (gI r0 0)),(.i (qh .i64 (gI r0 1) 1)),(.i (gI r0 2)),(.i (gI r0 3)),(.r (gR r0 9)),(.i (gI r1 4))]))) .fail) .fail) (.leaf (1,[(.i y2),(.i y3),(.r y4),(.i y5)]))):=by kernel_rfl
theorem q4q(y0:Int)(y1:Int)(y2:R)(y3:Int):vl [.i y0,.i y1,.r y2,.i y3]=(.br (ilt y1 y0) (let r0:TR:=(qg v8 [(.i y1),(.i (qh .i64 y1 1)),(.i y0),(.i y1),(.r y2),(.i y3)])
 .br (okR r0) (.br (jIs r0 0) (.leaf (0,[(.i (gI r0 0)),(.i (qh .i64 (gI r0 1) 1)),(.r (gR r0 2)),(.i (gI r0 3))])) (.leaf (2,[(.i (gI r0 0)),(.r (gR r0 1))]))) .fail) (.leaf (1,[(.r y2),(.i y3)]))):=by kernel_rfl
theorem q0j(y0:Int)(y1:Int)(y2:Int)(y3:Int)(y4:Int)(y5:Int)(y6:Int)(y7:Int)(y8:R)(y9:Int)(y10:Int)(y11:Int)(y12:Int)(y13:R)(y14:Int)(y15:R)(y16:R):qV [.i y0,.i y1,.i y2,.i y3,.i y4,.i y5,.i y6,.i y7,.r y8,.i y9,.i y10,.i y11,.i y12,.r y13,.i y14,.r y15,.r y16]=(.br (ilt y1 y0) (.br (inb y1 (qj y15)) (.br (inb (cI y15 y1 0) (qj y13)) (.br (ile ((qj y16)+(qj [[(.s (cS y13 (cI y15 y1 0) 0)),(.s (cS y13 (cI y15 y1 0) 1)),(.s (cS y13 (cI y15 y1 0) 2))]])) 2932031007402) (.leaf (0,[(.i y0),(.i (qh .i64 y1 1)),(.i y2),(.i y3),(.i y4),(.i y5),(.i y6),(.i y7),(.r y8),(.i y9),(.i y10),(.i y11),(.i y12),(.r y13),(.i y14),(.r y15),(.r (qc3 y16 [[(.s (cS y13 (cI y15 y1 0) 0)),(.s (cS y13 (cI y15 y1 0) 1)),(.s (cS y13 (cI y15 y1 0) 2))]]))])) .fail) .fail) .fail) (.leaf (1,[(.i y2),(.i y3),(.i y4),(.i y5),(.i y6),(.i y7),(.r y8),(.i y9),(.i y10),(.i y11),(.i y12),(.r y13),(.i y14),(.r y15),(.r y16)]))):=by kernel_rfl
theorem q3x(y0:Int)(y1:Int)(y2:Int)(y3:Int)(y4:Int)(y5:R)(y6:Int):wU [.i y0,.i y1,.i y2,.i y3,.i y4,.r y5,.i y6]=(.br (ilt y2 (qj y5)) (let r0:TR:=(qg qV [(.i (qj [[(.i y0)],[(.i y1)],[(.i y2)]])),(.i 0),(.i y0),(.i y1),(.i y2),(.i y3),(.i y4),(.i y2),(.r y5),(.i (qj y5)),(.i y0),(.i y1),(.i y2),(.r y5),(.i y6),(.r [[(.i y0)],[(.i y1)],[(.i y2)]]),(.r [])])
 .br (okR r0) (let r1:TR:=(qC [(.r (gR r0 14)),(.i (gI r0 12))])
 .br (okR r1) (.br (not (gB r1 3)) (.br (ieq (gI r1 4) 0) (.leaf (2,[(.i 0),(.r [[(.i (gI r0 0))],[(.i (gI r0 1))],[(.i (gI r0 2))]])])) (.leaf (0,[(.i (gI r0 0)),(.i (gI r0 1)),(.i (qh .i64 (gI r0 2) 1)),(.i (gI r0 3)),(.i (gI r0 4)),(.r (gR r0 11)),(.i (gI r1 4))]))) (.leaf (0,[(.i (gI r0 0)),(.i (gI r0 1)),(.i (qh .i64 (gI r0 2) 1)),(.i (gI r0 3)),(.i (gI r0 4)),(.r (gR r0 11)),(.i (gI r1 4))]))) .fail) .fail) (.leaf (1,[(.i y0),(.i y1),(.i y3),(.i y4),(.r y5),(.i y6)]))):=by kernel_rfl
theorem q3t(y0:Int)(y1:Int)(y2:Int)(y3:Int)(y4:R)(y5:Int):wV [.i y0,.i y1,.i y2,.i y3,.r y4,.i y5]=(.br (ilt y1 (qj y4)) (let r0:TR:=(qg wU [(.i y0),(.i y1),(.i (qh .i64 y1 1)),(.i y2),(.i y3),(.r y4),(.i y5)])
 .br (okR r0) (.br (jIs r0 0) (.leaf (0,[(.i (gI r0 0)),(.i (qh .i64 (gI r0 1) 1)),(.i (gI r0 2)),(.i (gI r0 3)),(.r (gR r0 4)),(.i (gI r0 5))])) (.leaf (2,[(.i (gI r0 0)),(.r (gR r0 1))]))) .fail) (.leaf (1,[(.i y2),(.i y3),(.r y4),(.i y5)]))):=by kernel_rfl
theorem q3N(y0:Int)(y1:Int)(y2:R)(y3:Int):wT [.i y0,.i y1,.r y2,.i y3]=(.br (ilt y1 y0) (let r0:TR:=(qg wV [(.i y1),(.i (qh .i64 y1 1)),(.i y0),(.i y1),(.r y2),(.i y3)])
 .br (okR r0) (.br (jIs r0 0) (.leaf (0,[(.i (gI r0 0)),(.i (qh .i64 (gI r0 1) 1)),(.r (gR r0 2)),(.i (gI r0 3))])) (.leaf (2,[(.i (gI r0 0)),(.r (gR r0 1))]))) .fail) (.leaf (1,[(.i y3)]))):=by kernel_rfl
theorem qeA(x0:R):jf [.r x0]=(let r0:TR:=(zL [(.r x0)])
 .br (okR r0) (.br (ine (gI r0 0) 0) (.leaf (0,[(.r []),(.i (gI r0 0))])) (let r1:TR:=(qg vl [(.i (qj x0)),(.i 0),(.r x0),(.i 0)])
 .br (okR r1) (.br (jIs r1 0) (let r2:TR:=(qg wT [(.i (qj (gR r1 0))),(.i 0),(.r (gR r1 0)),(.i (gI r1 1))])
 .br (okR r2) (.br (jIs r2 0) (.leaf (0,[(.r []),(.i (gI r2 0))])) (.leaf (0,[(.r (gR r2 1)),(.i (gI r2 0))]))) .fail) (.leaf (0,[(.r (gR r1 1)),(.i (gI r1 0))]))) .fail)) .fail):=by kernel_rfl
theorem qn3(x0:R):uV [.r x0]=(let r0:TR:=(zL [(.r x0)])
 .br (okR r0) (.br (ine (gI r0 0) 0) (.leaf (0,[(.b false),(.i 0),(.i 0),(.i 0),(.i (gI r0 0))])) (let r1:TR:=(qC [(.r x0),(.i 0)])
 .br (okR r1) (.br (ine (gI r1 4) 0) (.leaf (0,[(.b false),(.i 0),(.i 0),(.i 0),(.i (gI r1 4))])) (.leaf (0,[(.b (gB r1 3)),(.i (gI r1 0)),(.i (gI r1 1)),(.i (gI r1 2)),(.i 0)]))) .fail)) .fail):=by kernel_rfl
theorem q3D(y0:R)(y1:R)(y2:Int)(y3:Int):wR [.r y0,.r y1,.i y2,.i y3]=(.br (ilt y3 y2) (.br (inb y3 (qj y0)) (.br (inb y3 (qj y1)) (.br (ine (cI y0 y3 0) (cI y1 y3 0)) (.leaf (2,[(.b false)])) (.leaf (0,[(.r y0),(.r y1),(.i y2),(.i (qh .i64 y3 1))]))) .fail) .fail) (.leaf (1,[]))):=by kernel_rfl
theorem qcG(x0:R)(x1:R):vM [.r x0,.r x1]=(.br (ine (qj x0) (qj x1)) (.leaf (0,[(.b false)])) (let r0:TR:=(qg wR [(.r x0),(.r x1),(.i (qj x0)),(.i 0)])
 .br (okR r0) (.br (jIs r0 0) (.leaf (0,[(.b true)])) (.leaf (0,[(.b (gB r0 0))]))) .fail)):=by kernel_rfl
theorem qhL(x0:List UInt8)(x1:List UInt8)(x2:Int):jw [.s x0,.s x1,.i x2]=(let r0:TR:=(qL [(.s x0),(.s x1),(.i x2)])
 .br (okR r0) (let r1:TR:=(vR [(.s (gS r0 0)),(.s [48]),(.s [48]),(.i (gI r0 1))])
 .br (okR r1) (.leaf (0,[(.i (gI r1 0)),(.i (gI r1 1))])) .fail) .fail):=by kernel_rfl
theorem qcf(x0:List UInt8)(x1:List UInt8)(x2:List UInt8)(x3:List UInt8)(x4:Int):jI [.s x0,.s x1,.s x2,.s x3,.i x4]=(let r0:TR:=(zU [(.s x0),(.s x1),(.s x2),(.s x3),(.i x4)])
 .br (okR r0) (let r1:TR:=(zx [(.s (gS r0 0)),(.s (gS r0 1)),(.s (gS r0 0)),(.s (gS r0 1)),(.i (gI r0 2))])
 .br (okR r1) (.leaf (0,[(.s (gS r1 0)),(.i (gI r1 1))])) .fail) .fail):=by kernel_rfl
theorem qmb(y0:List UInt8)(y1:Int):q2m [.s y0,.i y1]=(.br (ilt y1 (qm y0)) (.br (inb y1 (qm y0)) (.br (ieq (sat y0 y1) 47) (.leaf (2,[(.i y1)])) (.leaf (0,[(.s y0),(.i (qh .i64 y1 1))]))) .fail) (.leaf (1,[]))):=by kernel_rfl
theorem qpW(x0:List UInt8):q0C [.s x0]=(let r0:TR:=(qg q2m [(.s x0),(.i 0)])
 .br (okR r0) (.br (jIs r0 0) (.leaf (0,[(.i (-1))])) (.leaf (0,[(.i (gI r0 0))]))) .fail):=by kernel_rfl
theorem qq8(x0:List UInt8):zS [.s x0]=(let r0:TR:=(q0C [(.s x0)])
 .br (okR r0) (.br (ilt (gI r0 0) 0) (.leaf (0,[(.s x0),(.s [49])])) (.br (q4D (gI r0 0) (qm x0)) (.br (q4D 0 (gI r0 0)) (.br (q4D (qm x0) (qm x0)) (.br (q4D (qh .i64 (gI r0 0) 1) (qm x0)) (.leaf (0,[(.s (qaA x0 0 (gI r0 0))),(.s (qaA x0 (qh .i64 (gI r0 0) 1) (qm x0)))])) .fail) .fail) .fail) .fail)) .fail):=by kernel_rfl
theorem qjs(x0:List UInt8):qt [.s x0]=(.br (not (seq x0 [])) (.br (inb 0 (qm x0)) (.br (ieq (sat x0 0) 45) (.br (q4D (qm x0) (qm x0)) (.br (q4D 1 (qm x0)) (.leaf (0,[(.s (qaA x0 1 (qm x0)))])) .fail) .fail) (.leaf (0,[(.s x0)]))) .fail) (.leaf (0,[(.s x0)]))):=by kernel_rfl
theorem qmg(y0:List UInt8)(y1:Int):kM [.s y0,.i y1]=(.br (ilt y1 (qm y0)) (.br (inb y1 (qm y0)) (.br (ilt (sat y0 y1) 48) (.leaf (2,[(.i 3)])) (.br (inb y1 (qm y0)) (.br (ilt 57 (sat y0 y1)) (.leaf (2,[(.i 3)])) (.leaf (0,[(.s y0),(.i (qh .i64 y1 1))]))) .fail)) .fail) (.leaf (1,[(.s y0)]))):=by kernel_rfl
theorem qpU(x0:List UInt8):q2I [.s x0]=(let r0:TR:=(qt [(.s x0)])
 .br (okR r0) (.br (seq (gS r0 0) []) (.leaf (0,[(.i 3)])) (.br (inb 0 (qm (gS r0 0))) (.br (ieq (sat (gS r0 0) 0) 48) (.br (ilt 1 (qm (gS r0 0))) (.leaf (0,[(.i 3)])) (.br (ilt 1 (qm x0)) (.leaf (0,[(.i 3)])) (let r1:TR:=(qg kM [(.s (gS r0 0)),(.i 0)])
 .br (okR r1) (.br (jIs r1 0) (.br (ilt 1024 (qm (gS r1 0))) (.leaf (0,[(.i 11)])) (.leaf (0,[(.i 0)]))) (.leaf (0,[(.i (gI r1 0))]))) .fail))) (let r1:TR:=(qg kM [(.s (gS r0 0)),(.i 0)])
 .br (okR r1) (.br (jIs r1 0) (.br (ilt 1024 (qm (gS r1 0))) (.leaf (0,[(.i 11)])) (.leaf (0,[(.i 0)]))) (.leaf (0,[(.i (gI r1 0))]))) .fail)) .fail)) .fail):=by kernel_rfl
theorem qpX(x0:List UInt8):qB [.s x0]=(.br (inb 0 (qm x0)) (.leaf (0,[(.b (ieq (sat x0 0) 45))])) .fail):=by kernel_rfl
theorem qnF(x0:List UInt8)(x1:Bool):qI [.s x0,.b x1]=(.br x1 (.br (not (seq x0 [48])) (.br (ile ((qm [45])+(qm x0)) 140737488355328) (.leaf (0,[(.s (qbC [45] x0))])) .fail) (.leaf (0,[(.s x0)]))) (.leaf (0,[(.s x0)]))):=by kernel_rfl
theorem qnD(x0:List UInt8):zC [.s x0]=(let r0:TR:=(qt [(.s x0)])
 .br (okR r0) (let r1:TR:=(qB [(.s x0)])
 .br (okR r1) (let r2:TR:=(qI [(.s (gS r0 0)),(.b (not (gB r1 0)))])
 .br (okR r2) (.leaf (0,[(.s (gS r2 0))])) .fail) .fail) .fail):=by kernel_rfl
theorem qqa(y0:Int)(y1:List UInt8):q5r [.i y0,.s y1]=(.br (ilt 9 y0) (.br (ile ((qm (qgB [[(.i (wl .u8 (qh .i64 48 (q5N y0 10))))]]))+(qm y1)) 140737488355328) (.leaf (0,[(.i (jo .i64 y0 10)),(.s (qbC (qgB [[(.i (wl .u8 (qh .i64 48 (q5N y0 10))))]]) y1))])) .fail) (.leaf (1,[(.i y0),(.s y1)]))):=by kernel_rfl
theorem qug(x0:Int):q4o [.i x0]=(.br (ieq x0 (qv .i64 0 x0)) (.br (ine x0 0) (.leaf (0,[(.s [45,57,50,50,51,51,55,50,48,51,54,56,53,52,55,55,53,56,48,56])])) (.br (ilt x0 0) .fail (let r0:TR:=(qg q5r [(.i x0),(.s [])])
 .br (okR r0) (.br (ile ((qm (qgB [[(.i (wl .u8 (qh .i64 48 (gI r0 0))))]]))+(qm (gS r0 1))) 140737488355328) (.leaf (0,[(.s (qbC (qgB [[(.i (wl .u8 (qh .i64 48 (gI r0 0))))]]) (gS r0 1)))])) .fail) .fail))) (.br (ilt x0 0) .fail (let r0:TR:=(qg q5r [(.i x0),(.s [])])
 .br (okR r0) (.br (ile ((qm (qgB [[(.i (wl .u8 (qh .i64 48 (gI r0 0))))]]))+(qm (gS r0 1))) 140737488355328) (.leaf (0,[(.s (qbC (qgB [[(.i (wl .u8 (qh .i64 48 (gI r0 0))))]]) (gS r0 1)))])) .fail) .fail))):=by kernel_rfl
theorem qse(y0:Int)(y1:List UInt8):q6O [.i y0,.s y1]=(.br (ilt 9 y0) (.br (ile ((qm (qgB [[(.i (wl .u8 (qh .i64 48 (q5N y0 10))))]]))+(qm y1)) 140737488355328) (.leaf (0,[(.i (jo .i64 y0 10)),(.s (qbC (qgB [[(.i (wl .u8 (qh .i64 48 (q5N y0 10))))]]) y1))])) .fail) (.leaf (1,[(.i y0),(.s y1)]))):=by kernel_rfl
theorem qoC(x0:Int):qW [.i x0]=(.br (ieq x0 (qv .i64 0 x0)) (.br (ine x0 0) (.leaf (0,[(.s [45,57,50,50,51,51,55,50,48,51,54,56,53,52,55,55,53,56,48,56])])) (.br (ilt x0 0) (let r0:TR:=(q4o [(.i (qv .i64 0 x0))])
 .br (okR r0) (let r1:TR:=(zC [(.s (gS r0 0))])
 .br (okR r1) (.leaf (0,[(.s (gS r1 0))])) .fail) .fail) (let r0:TR:=(qg q6O [(.i x0),(.s [])])
 .br (okR r0) (.br (ile ((qm (qgB [[(.i (wl .u8 (qh .i64 48 (gI r0 0))))]]))+(qm (gS r0 1))) 140737488355328) (.leaf (0,[(.s (qbC (qgB [[(.i (wl .u8 (qh .i64 48 (gI r0 0))))]]) (gS r0 1)))])) .fail) .fail))) (.br (ilt x0 0) (let r0:TR:=(q4o [(.i (qv .i64 0 x0))])
 .br (okR r0) (let r1:TR:=(zC [(.s (gS r0 0))])
 .br (okR r1) (.leaf (0,[(.s (gS r1 0))])) .fail) .fail) (let r0:TR:=(qg q6O [(.i x0),(.s [])])
 .br (okR r0) (.br (ile ((qm (qgB [[(.i (wl .u8 (qh .i64 48 (gI r0 0))))]]))+(qm (gS r0 1))) 140737488355328) (.leaf (0,[(.s (qbC (qgB [[(.i (wl .u8 (qh .i64 48 (gI r0 0))))]]) (gS r0 1)))])) .fail) .fail))):=by kernel_rfl
theorem qc4(y0:List UInt8)(y1:Int)(y2:List UInt8)(y3:Int):ug [.s y0,.i y1,.s y2,.i y3]=(.br (ilt y3 (qm y2)) (.br (inb y3 (qm y2)) (.leaf (0,[(.s y0),(.i (qh .i64 (u7 .i64 10 y1) (wl .i64 (qv .u8 (sat y2 y3) 48)))),(.s y2),(.i (qh .i64 y3 1))])) .fail) (.leaf (1,[(.s y0),(.i y1)]))):=by kernel_rfl
theorem qoT(x0:List UInt8):yo [.s x0]=(let r0:TR:=(qt [(.s x0)])
 .br (okR r0) (let r1:TR:=(qg ug [(.s x0),(.i 0),(.s (gS r0 0)),(.i 0)])
 .br (okR r1) (let r2:TR:=(qB [(.s (gS r1 0))])
 .br (okR r2) (.br (gB r2 0) (.leaf (0,[(.i (qv .i64 0 (gI r1 1)))])) (.leaf (0,[(.i (gI r1 1))]))) .fail) .fail) .fail):=by kernel_rfl
theorem qpI(x0:List UInt8)(x1:List UInt8):zW [.s x0,.s x1]=(.br (okR (qt [(.s x0)])) (.br (ilt 18 (qm (gS (qt [(.s x0)]) 0))) (.leaf (0,[(.i 0),(.i 0),(.b false)])) (.br (okR (qt [(.s x1)])) (.br (ilt 18 (qm (gS (qt [(.s x1)]) 0))) (.leaf (0,[(.i 0),(.i 0),(.b false)])) (.br (okR (yo [(.s x0)])) (.br (okR (yo [(.s x1)])) (.leaf (0,[(.i (gI (yo [(.s x0)]) 0)),(.i (gI (yo [(.s x1)]) 0)),(.b true)])) .fail) .fail)) .fail)) .fail):=by kernel_rfl
theorem qfm(y0:List UInt8)(y1:Int)(y2:Int)(y3:R):q17 [.s y0,.i y1,.i y2,.r y3]=(.br (ilt y2 y1) (.br (inb y2 (qj y3)) (.leaf (0,[(.s y0),(.i y1),(.i (qh .i64 y2 1)),(.r (qcA y3 y2 0 [(.i 48)]))])) .fail) (.leaf (1,[(.s y0),(.i y1),(.r y3)]))):=by kernel_rfl
theorem qrp(x0:List UInt8)(x1:Int):q2r [.s x0,.i x1]=(.br (ieq x1 x1) (.br (q4D x1 140737488355328) (let r0:TR:=(qg q17 [(.s x0),(.i x1),(.i 0),(.r (q3i x1 [(.i 0)]))])
 .br (okR r0) (.br (ilt 0 (qj (gR r0 2))) (.br (q4D (qv .i64 (gI r0 1) (qm (gS r0 0))) (qj (gR r0 2))) (.br (ile (qm (gS r0 0)) (qvA (qj (gR r0 2)) (qv .i64 (gI r0 1) (qm (gS r0 0))))) (.leaf (0,[(.s (qgB (quE (gR r0 2) (qv .i64 (gI r0 1) (qm (gS r0 0))) (gS r0 0))))])) .fail) .fail) .fail) .fail) .fail) .fail):=by kernel_rfl
theorem qnB(x0:Int)(x1:Int)(x2:Int)(x3:Bool):q1b [.i x0,.i x1,.i x2,.b x3]=(.br x3 (.br (ilt 9 (qh .i64 (qh .i64 (wl .i64 (qv .u8 x0 48)) (wl .i64 (qv .u8 x1 48))) x2)) (.leaf (0,[(.i (wl .u8 (qv .i64 (qh .i64 48 (qh .i64 (qh .i64 (wl .i64 (qv .u8 x0 48)) (wl .i64 (qv .u8 x1 48))) x2)) 10))),(.i 1)])) (.br (ilt (qh .i64 (qh .i64 (wl .i64 (qv .u8 x0 48)) (wl .i64 (qv .u8 x1 48))) x2) 0) (.leaf (0,[(.i (wl .u8 (qh .i64 (qh .i64 48 (qh .i64 (qh .i64 (wl .i64 (qv .u8 x0 48)) (wl .i64 (qv .u8 x1 48))) x2)) 10))),(.i 1)])) (.leaf (0,[(.i (wl .u8 (qh .i64 48 (qh .i64 (qh .i64 (wl .i64 (qv .u8 x0 48)) (wl .i64 (qv .u8 x1 48))) x2)))),(.i 0)])))) (.br (ilt 9 (qv .i64 (qv .i64 (wl .i64 (qv .u8 x0 48)) (wl .i64 (qv .u8 x1 48))) x2)) (.leaf (0,[(.i (wl .u8 (qv .i64 (qh .i64 48 (qv .i64 (qv .i64 (wl .i64 (qv .u8 x0 48)) (wl .i64 (qv .u8 x1 48))) x2)) 10))),(.i 1)])) (.br (ilt (qv .i64 (qv .i64 (wl .i64 (qv .u8 x0 48)) (wl .i64 (qv .u8 x1 48))) x2) 0) (.leaf (0,[(.i (wl .u8 (qh .i64 (qh .i64 48 (qv .i64 (qv .i64 (wl .i64 (qv .u8 x0 48)) (wl .i64 (qv .u8 x1 48))) x2)) 10))),(.i 1)])) (.leaf (0,[(.i (wl .u8 (qh .i64 48 (qv .i64 (qv .i64 (wl .i64 (qv .u8 x0 48)) (wl .i64 (qv .u8 x1 48))) x2)))),(.i 0)]))))):=by kernel_rfl
theorem qoI(y0:List UInt8):q3F [.s y0]=(.br (ilt 1 (qm y0)) (.br (inb 0 (qm y0)) (.br (ieq (sat y0 0) 48) (.br (q4D (qm y0) (qm y0)) (.br (q4D 1 (qm y0)) (.leaf (0,[(.s (qaA y0 1 (qm y0)))])) .fail) .fail) (.leaf (1,[(.s y0)]))) .fail) (.leaf (1,[(.s y0)]))):=by kernel_rfl
theorem qsl(x0:List UInt8):zE [.s x0]=(let r0:TR:=(qg q3F [(.s x0)])
 .br (okR r0) (.leaf (0,[(.s (gS r0 0))])) .fail):=by kernel_rfl
theorem qmp(y0:List UInt8)(y1:List UInt8)(y2:Bool)(y3:Int)(y4:Int)(y5:R):q0f [.s y0,.s y1,.b y2,.i y3,.i y4,.r y5]=(.br (ile 0 y4) (.br (inb y4 (qm y0)) (.br (inb y4 (qm y1)) (let r0:TR:=(q1b [(.i (sat y0 y4)),(.i (sat y1 y4)),(.i y3),(.b y2)])
 .br (okR r0) (.br (inb y4 (qj y5)) (.leaf (0,[(.s y0),(.s y1),(.b y2),(.i (gI r0 1)),(.i (qv .i64 y4 1)),(.r (qcA y5 y4 0 [(.i (gI r0 0))]))])) .fail) .fail) .fail) .fail) (.leaf (1,[(.r y5)]))):=by kernel_rfl
theorem qpx(x0:List UInt8)(x1:List UInt8)(x2:Bool):vh [.s x0,.s x1,.b x2]=(let r0:TR:=(q2r [(.s x0),(.i (qh .i64 (qeF (qm x0) (qm x1)) 1))])
 .br (okR r0) (let r1:TR:=(q2r [(.s x1),(.i (qh .i64 (qeF (qm x0) (qm x1)) 1))])
 .br (okR r1) (.br (ieq (qh .i64 (qeF (qm x0) (qm x1)) 1) (qh .i64 (qeF (qm x0) (qm x1)) 1)) (.br (q4D (qh .i64 (qeF (qm x0) (qm x1)) 1) 140737488355328) (let r2:TR:=(qg q0f [(.s (gS r0 0)),(.s (gS r1 0)),(.b x2),(.i 0),(.i (qv .i64 (qh .i64 (qeF (qm x0) (qm x1)) 1) 1)),(.r (q3i (qh .i64 (qeF (qm x0) (qm x1)) 1) [(.i 0)]))])
 .br (okR r2) (let r3:TR:=(zE [(.s (qgB (gR r2 0)))])
 .br (okR r3) (.leaf (0,[(.s (gS r3 0))])) .fail) .fail) .fail) .fail) .fail) .fail):=by kernel_rfl
theorem qrF(x0:List UInt8)(x1:List UInt8):uu [.s x0,.s x1]=(.br (ilt (qm x0) (qm x1)) (.leaf (0,[(.b true)])) (.br (ieq (qm x0) (qm x1)) (.leaf (0,[(.b (slt x0 x1))])) (.leaf (0,[(.b false)])))):=by kernel_rfl
theorem qrN(x0:List UInt8)(x1:List UInt8):q2i [.s x0,.s x1]=(let r0:TR:=(zW [(.s x0),(.s x1)])
 .br (okR r0) (.br (gB r0 2) (let r1:TR:=(qW [(.i (qh .i64 (gI r0 0) (gI r0 1)))])
 .br (okR r1) (.leaf (0,[(.s (gS r1 0))])) .fail) (let r1:TR:=(qt [(.s x0)])
 .br (okR r1) (let r2:TR:=(qt [(.s x1)])
 .br (okR r2) (let r3:TR:=(qB [(.s x0)])
 .br (okR r3) (let r4:TR:=(qB [(.s x1)])
 .br (okR r4) (.br (beq (gB r3 0) (gB r4 0)) (let r5:TR:=(vh [(.s (gS r1 0)),(.s (gS r2 0)),(.b true)])
 .br (okR r5) (.br (okR r3) (let r6:TR:=(qI [(.s (gS r5 0)),(.b (gB r3 0))])
 .br (okR r6) (.leaf (0,[(.s (gS r6 0))])) .fail) .fail) .fail) (let r5:TR:=(uu [(.s (gS r1 0)),(.s (gS r2 0))])
 .br (okR r5) (.br (gB r5 0) (let r6:TR:=(vh [(.s (gS r2 0)),(.s (gS r1 0)),(.b false)])
 .br (okR r6) (.br (okR r4) (let r7:TR:=(qI [(.s (gS r6 0)),(.b (gB r4 0))])
 .br (okR r7) (.leaf (0,[(.s (gS r7 0))])) .fail) .fail) .fail) (let r6:TR:=(vh [(.s (gS r1 0)),(.s (gS r2 0)),(.b false)])
 .br (okR r6) (.br (okR r3) (let r7:TR:=(qI [(.s (gS r6 0)),(.b (gB r3 0))])
 .br (okR r7) (.leaf (0,[(.s (gS r7 0))])) .fail) .fail) .fail)) .fail)) .fail) .fail) .fail) .fail)) .fail):=by kernel_rfl
theorem qpg(x0:List UInt8)(x1:List UInt8):wJ [.s x0,.s x1]=(let r0:TR:=(zC [(.s x1)])
 .br (okR r0) (let r1:TR:=(q2i [(.s x0),(.s (gS r0 0))])
 .br (okR r1) (.leaf (0,[(.s (gS r1 0))])) .fail) .fail):=by kernel_rfl
theorem qp8(x0:List UInt8)(x1:List UInt8):ya [.s x0,.s x1]=(let r0:TR:=(wJ [(.s x0),(.s x1)])
 .br (okR r0) (.br (seq (gS r0 0) [48]) (.leaf (0,[(.i 0)])) (let r1:TR:=(qB [(.s (gS r0 0))])
 .br (okR r1) (.br (gB r1 0) (.leaf (0,[(.i (-1))])) (.leaf (0,[(.i 1)]))) .fail)) .fail):=by kernel_rfl
theorem qjZ(y0:List UInt8)(y1:List UInt8)(y2:Int)(y3:Int)(y4:R):yI [.s y0,.s y1,.i y2,.i y3,.r y4]=(.br (ilt y3 (qm y1)) (.br (inb (qh .i64 (qh .i64 y2 y3) 1) (qj y4)) (.br (inb y2 (qm y0)) (.br (inb y3 (qm y1)) (.br (inb (qh .i64 (qh .i64 y2 y3) 1) (qj y4)) (.leaf (0,[(.s y0),(.s y1),(.i y2),(.i (qh .i64 y3 1)),(.r (qcA y4 (qh .i64 (qh .i64 y2 y3) 1) 0 [(.i (qh .i64 (cI y4 (qh .i64 (qh .i64 y2 y3) 1) 0) (u7 .i64 (wl .i64 (qv .u8 (sat y0 y2) 48)) (wl .i64 (qv .u8 (sat y1 y3) 48)))))]))])) .fail) .fail) .fail) .fail) (.leaf (1,[(.s y0),(.s y1),(.i y2),(.r y4)]))):=by kernel_rfl
theorem qiS(y0:List UInt8)(y1:List UInt8)(y2:Int)(y3:R):yD [.s y0,.s y1,.i y2,.r y3]=(.br (ilt y2 (qm y0)) (let r0:TR:=(qg yI [(.s y0),(.s y1),(.i y2),(.i 0),(.r y3)])
 .br (okR r0) (.leaf (0,[(.s (gS r0 0)),(.s (gS r0 1)),(.i (qh .i64 (gI r0 2) 1)),(.r (gR r0 3))])) .fail) (.leaf (1,[(.r y3)]))):=by kernel_rfl
theorem qhr(y0:Int)(y1:Int)(y2:R)(y3:R):jD [.i y0,.i y1,.r y2,.r y3]=(.br (ile 0 y1) (.br (inb y1 (qj y2)) (.br (inb y1 (qj y3)) (.leaf (0,[(.i (jo .i64 (qh .i64 y0 (cI y2 y1 0)) 10)),(.i (qv .i64 y1 1)),(.r y2),(.r (qcA y3 y1 0 [(.i (wl .u8 (qh .i64 48 (q5N (qh .i64 y0 (cI y2 y1 0)) 10))))]))])) .fail) .fail) (.leaf (1,[(.r y3)]))):=by kernel_rfl
theorem qmh(x0:List UInt8)(x1:List UInt8):q09 [.s x0,.s x1]=(.br (ieq (qh .i64 (qm x0) (qm x1)) (qh .i64 (qm x0) (qm x1))) (.br (q4D (qh .i64 (qm x0) (qm x1)) 17592186044416) (let r0:TR:=(qg yD [(.s x0),(.s x1),(.i 0),(.r (q3i (qh .i64 (qm x0) (qm x1)) [(.i 0)]))])
 .br (okR r0) (.br (ieq (qj (gR r0 0)) (qj (gR r0 0))) (.br (q4D (qj (gR r0 0)) 140737488355328) (let r1:TR:=(qg jD [(.i 0),(.i (qv .i64 (qj (gR r0 0)) 1)),(.r (gR r0 0)),(.r (q3i (qj (gR r0 0)) [(.i 0)]))])
 .br (okR r1) (let r2:TR:=(zE [(.s (qgB (gR r1 0)))])
 .br (okR r2) (.leaf (0,[(.s (gS r2 0))])) .fail) .fail) .fail) .fail) .fail) .fail) .fail):=by kernel_rfl
theorem qpz(x0:List UInt8)(x1:List UInt8):w9 [.s x0,.s x1]=(let r0:TR:=(zW [(.s x0),(.s x1)])
 .br (okR r0) (.br (gB r0 2) (.br (ile (qh .i64 (qm x0) (qm x1)) 18) (let r1:TR:=(qW [(.i (u7 .i64 (gI r0 0) (gI r0 1)))])
 .br (okR r1) (.leaf (0,[(.s (gS r1 0))])) .fail) (let r1:TR:=(qt [(.s x0)])
 .br (okR r1) (let r2:TR:=(qt [(.s x1)])
 .br (okR r2) (let r3:TR:=(q09 [(.s (gS r1 0)),(.s (gS r2 0))])
 .br (okR r3) (let r4:TR:=(qB [(.s x0)])
 .br (okR r4) (let r5:TR:=(qB [(.s x1)])
 .br (okR r5) (let r6:TR:=(qI [(.s (gS r3 0)),(.b (not (beq (gB r4 0) (gB r5 0))))])
 .br (okR r6) (.leaf (0,[(.s (gS r6 0))])) .fail) .fail) .fail) .fail) .fail) .fail)) (let r1:TR:=(qt [(.s x0)])
 .br (okR r1) (let r2:TR:=(qt [(.s x1)])
 .br (okR r2) (let r3:TR:=(q09 [(.s (gS r1 0)),(.s (gS r2 0))])
 .br (okR r3) (let r4:TR:=(qB [(.s x0)])
 .br (okR r4) (let r5:TR:=(qB [(.s x1)])
 .br (okR r5) (let r6:TR:=(qI [(.s (gS r3 0)),(.b (not (beq (gB r4 0) (gB r5 0))))])
 .br (okR r6) (.leaf (0,[(.s (gS r6 0))])) .fail) .fail) .fail) .fail) .fail) .fail)) .fail):=by kernel_rfl
theorem qi6(y0:List UInt8)(y1:List UInt8)(y2:List UInt8)(y3:List UInt8)(y4:Int)(y5:Int):jr [.s y0,.s y1,.s y2,.s y3,.i y4,.i y5]=(let r0:TR:=(uu [(.s y3),(.s y1)])
 .br (okR r0) (.br (not (gB r0 0)) (let r1:TR:=(vh [(.s y3),(.s y1),(.b false)])
 .br (okR r1) (.leaf (0,[(.s y0),(.s y1),(.s y2),(.s (gS r1 0)),(.i y4),(.i (qh .u8 y5 1))])) .fail) (.leaf (1,[(.s y0),(.s y1),(.s y2),(.s y3),(.i y4),(.i y5)]))) .fail):=by kernel_rfl
theorem qjQ(y0:List UInt8)(y1:List UInt8)(y2:List UInt8)(y3:List UInt8)(y4:Int):q04 [.s y0,.s y1,.s y2,.s y3,.i y4]=(.br (ilt y4 (qm y0)) (.br (q4D (qh .i64 y4 1) (qm y0)) (.br (q4D y4 (qh .i64 y4 1)) (.br (ile ((qm y3)+(qm (qaA y0 y4 (qh .i64 y4 1)))) 140737488355328) (let r0:TR:=(zE [(.s (qbC y3 (qaA y0 y4 (qh .i64 y4 1))))])
 .br (okR r0) (let r1:TR:=(qg jr [(.s y0),(.s y1),(.s y2),(.s (gS r0 0)),(.i y4),(.i 48)])
 .br (okR r1) (.br (ile ((qm (gS r1 2))+(qm (qgB [[(.i (gI r1 5))]]))) 140737488355328) (.leaf (0,[(.s (gS r1 0)),(.s (gS r1 1)),(.s (qbC (gS r1 2) (qgB [[(.i (gI r1 5))]]))),(.s (gS r1 3)),(.i (qh .i64 (gI r1 4) 1))])) .fail) .fail) .fail) .fail) .fail) .fail) (.leaf (1,[(.s y2),(.s y3)]))):=by kernel_rfl
theorem qms(x0:List UInt8)(x1:List UInt8):q2o [.s x0,.s x1]=(let r0:TR:=(qg q04 [(.s x0),(.s x1),(.s []),(.s [48]),(.i 0)])
 .br (okR r0) (let r1:TR:=(zE [(.s (gS r0 0))])
 .br (okR r1) (.leaf (0,[(.s (gS r1 0)),(.s (gS r0 1))])) .fail) .fail):=by kernel_rfl
theorem qnd(x0:List UInt8)(x1:List UInt8):zR [.s x0,.s x1]=(let r0:TR:=(zW [(.s x0),(.s x1)])
 .br (okR r0) (.br (gB r0 2) (.br (ine (gI r0 1) 0) (.br (ine (q5N (gI r0 0) (gI r0 1)) 0) (.br (not (beq (ilt (q5N (gI r0 0) (gI r0 1)) 0) (ilt (gI r0 1) 0))) (.br (ine (gI r0 1) 0) (let r1:TR:=(qW [(.i (jo .i64 (qv .i64 (gI r0 0) (qh .i64 (q5N (gI r0 0) (gI r0 1)) (gI r0 1))) (gI r0 1)))])
 .br (okR r1) (let r2:TR:=(qW [(.i (qh .i64 (q5N (gI r0 0) (gI r0 1)) (gI r0 1)))])
 .br (okR r2) (.leaf (0,[(.s (gS r1 0)),(.s (gS r2 0))])) .fail) .fail) .fail) (.br (ine (gI r0 1) 0) (let r1:TR:=(qW [(.i (jo .i64 (qv .i64 (gI r0 0) (q5N (gI r0 0) (gI r0 1))) (gI r0 1)))])
 .br (okR r1) (let r2:TR:=(qW [(.i (q5N (gI r0 0) (gI r0 1)))])
 .br (okR r2) (.leaf (0,[(.s (gS r1 0)),(.s (gS r2 0))])) .fail) .fail) .fail)) (.br (ine (gI r0 1) 0) (let r1:TR:=(qW [(.i (jo .i64 (qv .i64 (gI r0 0) (q5N (gI r0 0) (gI r0 1))) (gI r0 1)))])
 .br (okR r1) (let r2:TR:=(qW [(.i (q5N (gI r0 0) (gI r0 1)))])
 .br (okR r2) (.leaf (0,[(.s (gS r1 0)),(.s (gS r2 0))])) .fail) .fail) .fail)) .fail) (let r1:TR:=(qt [(.s x0)])
 .br (okR r1) (let r2:TR:=(qt [(.s x1)])
 .br (okR r2) (let r3:TR:=(q2o [(.s (gS r1 0)),(.s (gS r2 0))])
 .br (okR r3) (let r4:TR:=(qB [(.s x0)])
 .br (okR r4) (let r5:TR:=(qB [(.s x1)])
 .br (okR r5) (let r6:TR:=(qI [(.s (gS r3 0)),(.b (not (beq (gB r4 0) (gB r5 0))))])
 .br (okR r6) (.br (not (seq (gS r3 1) [48])) (.br (okR r4) (.br (okR r5) (.br (not (beq (gB r4 0) (gB r5 0))) (let r7:TR:=(wJ [(.s (gS r6 0)),(.s [49])])
 .br (okR r7) (let r8:TR:=(w9 [(.s (gS r7 0)),(.s x1)])
 .br (okR r8) (let r9:TR:=(wJ [(.s x0),(.s (gS r8 0))])
 .br (okR r9) (.leaf (0,[(.s (gS r7 0)),(.s (gS r9 0))])) .fail) .fail) .fail) (let r7:TR:=(w9 [(.s (gS r6 0)),(.s x1)])
 .br (okR r7) (let r8:TR:=(wJ [(.s x0),(.s (gS r7 0))])
 .br (okR r8) (.leaf (0,[(.s (gS r6 0)),(.s (gS r8 0))])) .fail) .fail)) .fail) .fail) (let r7:TR:=(w9 [(.s (gS r6 0)),(.s x1)])
 .br (okR r7) (let r8:TR:=(wJ [(.s x0),(.s (gS r7 0))])
 .br (okR r8) (.leaf (0,[(.s (gS r6 0)),(.s (gS r8 0))])) .fail) .fail)) .fail) .fail) .fail) .fail) .fail) .fail)) .fail):=by kernel_rfl
theorem qiB(y0:Int)(y1:Int):yB [.i y0,.i y1]=(.br (ilt 0 y1) (.br (ine y1 0) (.leaf (0,[(.i y1),(.i (q5N y0 y1))])) .fail) (.leaf (1,[(.i y0)]))):=by kernel_rfl
theorem qkU(y0:List UInt8)(y1:List UInt8):q0N [.s y0,.s y1]=(.br (not (seq y1 [48])) (let r0:TR:=(zW [(.s y0),(.s y1)])
 .br (okR r0) (.br (gB r0 2) (let r1:TR:=(qg yB [(.i (gI r0 0)),(.i (gI r0 1))])
 .br (okR r1) (let r2:TR:=(qW [(.i (gI r1 0))])
 .br (okR r2) (.leaf (2,[(.s (gS r2 0))])) .fail) .fail) (let r1:TR:=(zR [(.s y0),(.s y1)])
 .br (okR r1) (.leaf (0,[(.s y1),(.s (gS r1 1))])) .fail)) .fail) (.leaf (1,[(.s y0)]))):=by kernel_rfl
theorem qoH(x0:List UInt8)(x1:List UInt8):uO [.s x0,.s x1]=(let r0:TR:=(qt [(.s x0)])
 .br (okR r0) (let r1:TR:=(qI [(.s (gS r0 0)),(.b false)])
 .br (okR r1) (let r2:TR:=(qt [(.s x1)])
 .br (okR r2) (let r3:TR:=(qI [(.s (gS r2 0)),(.b false)])
 .br (okR r3) (let r4:TR:=(qg q0N [(.s (gS r1 0)),(.s (gS r3 0))])
 .br (okR r4) (.br (jIs r4 0) (.leaf (0,[(.s (gS r4 0))])) (.leaf (0,[(.s (gS r4 0))]))) .fail) .fail) .fail) .fail) .fail):=by kernel_rfl
theorem qpS(x0:List UInt8):q0E [.s x0]=(let r0:TR:=(zS [(.s x0)])
 .br (okR r0) (let r1:TR:=(q2I [(.s (gS r0 0))])
 .br (okR r1) (.br (ieq (gI r1 0) 3) (.leaf (0,[(.i 3)])) (let r2:TR:=(q2I [(.s (gS r0 1))])
 .br (okR r2) (.br (ieq (gI r2 0) 3) (.leaf (0,[(.i 3)])) (.br (okR r1) (.br (ine (gI r1 0) 0) (.leaf (0,[(.i 11)])) (.br (okR r2) (.br (ine (gI r2 0) 0) (.leaf (0,[(.i 11)])) (let r3:TR:=(q0C [(.s x0)])
 .br (okR r3) (.br (ile 0 (gI r3 0)) (let r4:TR:=(ya [(.s (gS r0 1)),(.s [49])])
 .br (okR r4) (.br (ile (gI r4 0) 0) (.leaf (0,[(.i 3)])) (let r5:TR:=(uO [(.s (gS r0 0)),(.s (gS r0 1))])
 .br (okR r5) (.br (not (seq (gS r5 0) [49])) (.leaf (0,[(.i 3)])) (.leaf (0,[(.i 0)]))) .fail)) .fail) (.leaf (0,[(.i 0)]))) .fail)) .fail)) .fail)) .fail)) .fail) .fail):=by kernel_rfl
theorem qp3(x0:List UInt8):yw [.s x0]=(let r0:TR:=(zS [(.s x0)])
 .br (okR r0) (let r1:TR:=(ya [(.s (gS r0 0)),(.s [48])])
 .br (okR r1) (.leaf (0,[(.i (gI r1 0))])) .fail) .fail):=by kernel_rfl
theorem qme(x0:List UInt8)(x1:List UInt8):zk [.s x0,.s x1]=(let r0:TR:=(zS [(.s x0)])
 .br (okR r0) (let r1:TR:=(zS [(.s x1)])
 .br (okR r1) (let r2:TR:=(w9 [(.s (gS r0 0)),(.s (gS r1 1))])
 .br (okR r2) (let r3:TR:=(w9 [(.s (gS r1 0)),(.s (gS r0 1))])
 .br (okR r3) (let r4:TR:=(w9 [(.s (gS r0 1)),(.s (gS r1 1))])
 .br (okR r4) (let r5:TR:=(w9 [(.s (gS r0 0)),(.s (gS r1 0))])
 .br (okR r5) (let r6:TR:=(w9 [(.s (gS r0 1)),(.s (gS r1 0))])
 .br (okR r6) (.leaf (0,[(.r [[(.s (gS r2 0))],[(.s (gS r3 0))],[(.s (gS r4 0))],[(.s (gS r5 0))],[(.s (gS r6 0))]])])) .fail) .fail) .fail) .fail) .fail) .fail) .fail):=by kernel_rfl
theorem qnR(x0:List UInt8)(x1:List UInt8):zz [.s x0,.s x1]=(let r0:TR:=(uO [(.s x0),(.s x1)])
 .br (okR r0) (let r1:TR:=(qB [(.s x1)])
 .br (okR r1) (.br (gB r1 0) (let r2:TR:=(zC [(.s (gS r0 0))])
 .br (okR r2) (let r3:TR:=(zR [(.s x0),(.s (gS r2 0))])
 .br (okR r3) (let r4:TR:=(zR [(.s x1),(.s (gS r2 0))])
 .br (okR r4) (.br (seq (gS r4 0) [49]) (.leaf (0,[(.s (gS r3 0))])) (.br (ile ((qm (gS r3 0))+(qm [47])) 140737488355328) (.br (ile ((qm (qbC (gS r3 0) [47]))+(qm (gS r4 0))) 140737488355328) (.leaf (0,[(.s (qbC (qbC (gS r3 0) [47]) (gS r4 0)))])) .fail) .fail)) .fail) .fail) .fail) (let r2:TR:=(zR [(.s x0),(.s (gS r0 0))])
 .br (okR r2) (let r3:TR:=(zR [(.s x1),(.s (gS r0 0))])
 .br (okR r3) (.br (seq (gS r3 0) [49]) (.leaf (0,[(.s (gS r2 0))])) (.br (ile ((qm (gS r2 0))+(qm [47])) 140737488355328) (.br (ile ((qm (qbC (gS r2 0) [47]))+(qm (gS r3 0))) 140737488355328) (.leaf (0,[(.s (qbC (qbC (gS r2 0) [47]) (gS r3 0)))])) .fail) .fail)) .fail) .fail)) .fail) .fail):=by kernel_rfl
theorem qs6(x0:List UInt8)(x1:List UInt8):yj [.s x0,.s x1]=(let r0:TR:=(zk [(.s x0),(.s x1)])
 .br (okR r0) (.br (inb 0 (qj (gR r0 0))) (.br (inb 1 (qj (gR r0 0))) (let r1:TR:=(q2i [(.s (cS (gR r0 0) 0 0)),(.s (cS (gR r0 0) 1 0))])
 .br (okR r1) (.br (inb 2 (qj (gR r0 0))) (let r2:TR:=(zz [(.s (gS r1 0)),(.s (cS (gR r0 0) 2 0))])
 .br (okR r2) (.leaf (0,[(.s (gS r2 0))])) .fail) .fail) .fail) .fail) .fail) .fail):=by kernel_rfl
theorem qpp(x0:List UInt8)(x1:List UInt8):qY [.s x0,.s x1]=(let r0:TR:=(zk [(.s x0),(.s x1)])
 .br (okR r0) (.br (inb 0 (qj (gR r0 0))) (.br (inb 1 (qj (gR r0 0))) (let r1:TR:=(wJ [(.s (cS (gR r0 0) 0 0)),(.s (cS (gR r0 0) 1 0))])
 .br (okR r1) (.br (inb 2 (qj (gR r0 0))) (let r2:TR:=(zz [(.s (gS r1 0)),(.s (cS (gR r0 0) 2 0))])
 .br (okR r2) (.leaf (0,[(.s (gS r2 0))])) .fail) .fail) .fail) .fail) .fail) .fail):=by kernel_rfl
theorem qpR(x0:List UInt8)(x1:List UInt8):qO [.s x0,.s x1]=(let r0:TR:=(zk [(.s x0),(.s x1)])
 .br (okR r0) (.br (inb 3 (qj (gR r0 0))) (.br (inb 2 (qj (gR r0 0))) (let r1:TR:=(zz [(.s (cS (gR r0 0) 3 0)),(.s (cS (gR r0 0) 2 0))])
 .br (okR r1) (.leaf (0,[(.s (gS r1 0))])) .fail) .fail) .fail) .fail):=by kernel_rfl
theorem qtJ(x0:List UInt8)(x1:List UInt8)(x2:List UInt8)(x3:List UInt8):q1V [.s x0,.s x1,.s x2,.s x3]=(let r0:TR:=(qO [(.s x0),(.s x2)])
 .br (okR r0) (let r1:TR:=(qO [(.s x1),(.s x3)])
 .br (okR r1) (let r2:TR:=(yj [(.s (gS r0 0)),(.s (gS r1 0))])
 .br (okR r2) (.leaf (0,[(.s (gS r2 0))])) .fail) .fail) .fail):=by kernel_rfl
theorem qpv(x0:List UInt8)(x1:List UInt8)(x2:List UInt8)(x3:List UInt8):q2G [.s x0,.s x1,.s x2,.s x3]=(let r0:TR:=(qY [(.s x0),(.s x2)])
 .br (okR r0) (let r1:TR:=(qY [(.s x1),(.s x3)])
 .br (okR r1) (.leaf (0,[(.s (gS r0 0)),(.s (gS r1 0))])) .fail) .fail):=by kernel_rfl
theorem qoZ(x0:List UInt8):kg [.s x0]=(let r0:TR:=(qY [(.s [48]),(.s x0)])
 .br (okR r0) (.leaf (0,[(.s (gS r0 0))])) .fail):=by kernel_rfl
theorem qvT(x0:List UInt8)(x1:List UInt8):qc7 [.s x0,.s x1]=(let r0:TR:=(zk [(.s x0),(.s x1)])
 .br (okR r0) (.br (inb 0 (qj (gR r0 0))) (.br (inb 4 (qj (gR r0 0))) (let r1:TR:=(zz [(.s (cS (gR r0 0) 0 0)),(.s (cS (gR r0 0) 4 0))])
 .br (okR r1) (.leaf (0,[(.s (gS r1 0))])) .fail) .fail) .fail) .fail):=by kernel_rfl
theorem qkQ(x0:List UInt8)(x1:List UInt8)(x2:List UInt8)(x3:List UInt8)(x4:List UInt8)(x5:List UInt8):q3Q [.s x0,.s x1,.s x2,.s x3,.s x4,.s x5]=(let r0:TR:=(q2G [(.s x3),(.s x4),(.s x0),(.s x1)])
 .br (okR r0) (let r1:TR:=(q1V [(.s (gS r0 0)),(.s (gS r0 1)),(.s (gS r0 0)),(.s (gS r0 1))])
 .br (okR r1) (.br (seq (gS r1 0) [48]) (.leaf (0,[(.s []),(.s []),(.s []),(.s []),(.s []),(.b false)])) (let r2:TR:=(yj [(.s (gS r1 0)),(.s x2)])
 .br (okR r2) (let r3:TR:=(qY [(.s (gS r2 0)),(.s x5)])
 .br (okR r3) (let r4:TR:=(qO [(.s [50]),(.s (gS r1 0))])
 .br (okR r4) (let r5:TR:=(qc7 [(.s (gS r3 0)),(.s (gS r4 0))])
 .br (okR r5) (let r6:TR:=(qc7 [(.s x2),(.s (gS r1 0))])
 .br (okR r6) (let r7:TR:=(qO [(.s (gS r5 0)),(.s (gS r5 0))])
 .br (okR r7) (let r8:TR:=(qY [(.s (gS r6 0)),(.s (gS r7 0))])
 .br (okR r8) (let r9:TR:=(qO [(.s (gS r5 0)),(.s (gS r0 0))])
 .br (okR r9) (let r10:TR:=(yj [(.s x0),(.s (gS r9 0))])
 .br (okR r10) (let r11:TR:=(qO [(.s (gS r5 0)),(.s (gS r0 1))])
 .br (okR r11) (let r12:TR:=(yj [(.s x1),(.s (gS r11 0))])
 .br (okR r12) (let r13:TR:=(kg [(.s (gS r0 1))])
 .br (okR r13) (let r14:TR:=(yw [(.s (gS r8 0))])
 .br (okR r14) (.leaf (0,[(.s (gS r10 0)),(.s (gS r12 0)),(.s (gS r13 0)),(.s (gS r0 0)),(.s (gS r8 0)),(.b (ile 0 (gI r14 0)))])) .fail) .fail) .fail) .fail) .fail) .fail) .fail) .fail) .fail) .fail) .fail) .fail) .fail)) .fail) .fail):=by kernel_rfl
theorem qmz(x0:R)(x1:Int)(x2:Int)(x3:Int):kH [.r x0,.i x1,.i x2,.i x3]=(.br (ieq x1 x2) (.br (inb x1 (qj x0)) (.leaf (0,[(.s (cS x0 x1 0)),(.s (cS x0 x1 1)),(.s [48]),(.s [48]),(.s [48]),(.b (ieq x3 0))])) .fail) (.br (inb x1 (qj x0)) (.br (inb x2 (qj x0)) (let r0:TR:=(q3Q [(.s (cS x0 x1 0)),(.s (cS x0 x1 1)),(.s (cS x0 x1 2)),(.s (cS x0 x2 0)),(.s (cS x0 x2 1)),(.s (cS x0 x2 2))])
 .br (okR r0) (.br (not (gB r0 5)) (.leaf (0,[(.s []),(.s []),(.s []),(.s []),(.s []),(.b false)])) (.br (not (beq (seq (gS r0 4) [48]) (ieq x3 0))) (.leaf (0,[(.s []),(.s []),(.s []),(.s []),(.s []),(.b false)])) (.br (ilt x3 0) (let r1:TR:=(kg [(.s (gS r0 2))])
 .br (okR r1) (let r2:TR:=(kg [(.s (gS r0 3))])
 .br (okR r2) (.leaf (0,[(.s (gS r0 0)),(.s (gS r0 1)),(.s (gS r1 0)),(.s (gS r2 0)),(.s (gS r0 4)),(.b true)])) .fail) .fail) (.leaf (0,[(.s (gS r0 0)),(.s (gS r0 1)),(.s (gS r0 2)),(.s (gS r0 3)),(.s (gS r0 4)),(.b true)]))))) .fail) .fail) .fail)):=by kernel_rfl
theorem qq7(x0:List UInt8)(x1:List UInt8):q7U [.s x0,.s x1]=(let r0:TR:=(zk [(.s x0),(.s x1)])
 .br (okR r0) (.br (inb 0 (qj (gR r0 0))) (.br (inb 1 (qj (gR r0 0))) (let r1:TR:=(ya [(.s (cS (gR r0 0) 0 0)),(.s (cS (gR r0 0) 1 0))])
 .br (okR r1) (.leaf (0,[(.i (gI r1 0))])) .fail) .fail) .fail) .fail):=by kernel_rfl
theorem qs0(x0:List UInt8)(x1:List UInt8)(x2:List UInt8):qal [.s x0,.s x1,.s x2]=(let r0:TR:=(yw [(.s x0)])
 .br (okR r0) (let r1:TR:=(yw [(.s x1)])
 .br (okR r1) (let r2:TR:=(yw [(.s x2)])
 .br (okR r2) (.br (ile 0 (u7 .i64 (gI r0 0) (u7 .i64 (gI r1 0) (gI r2 0)))) (.br (ieq (gI r0 0) 0) (.leaf (0,[(.i (u7 .i64 (gI r1 0) (gI r2 0)))])) (.leaf (0,[(.i (gI r0 0))]))) (let r3:TR:=(qO [(.s x0),(.s x0)])
 .br (okR r3) (let r4:TR:=(qO [(.s x1),(.s x1)])
 .br (okR r4) (let r5:TR:=(qO [(.s (gS r4 0)),(.s x2)])
 .br (okR r5) (let r6:TR:=(q7U [(.s (gS r3 0)),(.s (gS r5 0))])
 .br (okR r6) (.leaf (0,[(.i (u7 .i64 (gI r0 0) (gI r6 0)))])) .fail) .fail) .fail) .fail)) .fail) .fail) .fail):=by kernel_rfl
theorem qpJ(x0:List UInt8)(x1:List UInt8)(x2:List UInt8)(x3:List UInt8)(x4:List UInt8)(x5:List UInt8)(x6:List UInt8)(x7:List UInt8):q52 [.s x0,.s x1,.s x2,.s x3,.s x4,.s x5,.s x6,.s x7]=(let r0:TR:=(q2G [(.s x3),(.s x4),(.s x0),(.s x1)])
 .br (okR r0) (let r1:TR:=(q1V [(.s (gS r0 0)),(.s (gS r0 1)),(.s (gS r0 0)),(.s (gS r0 1))])
 .br (okR r1) (let r2:TR:=(q1V [(.s x5),(.s x6),(.s x5),(.s x6)])
 .br (okR r2) (let r3:TR:=(qO [(.s x7),(.s (gS r2 0))])
 .br (okR r3) (let r4:TR:=(yj [(.s (gS r1 0)),(.s (gS r3 0))])
 .br (okR r4) (let r5:TR:=(qY [(.s (gS r4 0)),(.s x2)])
 .br (okR r5) (let r6:TR:=(q1V [(.s (gS r0 0)),(.s (gS r0 1)),(.s x5),(.s x6)])
 .br (okR r6) (let r7:TR:=(qO [(.s [50]),(.s (gS r6 0))])
 .br (okR r7) (let r8:TR:=(qal [(.s (gS r5 0)),(.s (gS r7 0)),(.s x7)])
 .br (okR r8) (.leaf (0,[(.b (ile (gI r8 0) 0))])) .fail) .fail) .fail) .fail) .fail) .fail) .fail) .fail) .fail):=by kernel_rfl
theorem q5Q(y0:R)(y1:Int)(y2:List UInt8)(y3:List UInt8)(y4:List UInt8)(y5:List UInt8)(y6:List UInt8):q45 [.r y0,.i y1,.s y2,.s y3,.s y4,.s y5,.s y6]=(.br (ilt y1 (qj y0)) (.br (inb y1 (qj y0)) (let r0:TR:=(q52 [(.s (cS y0 y1 0)),(.s (cS y0 y1 1)),(.s (cS y0 y1 2)),(.s y2),(.s y3),(.s y4),(.s y5),(.s y6)])
 .br (okR r0) (.br (not (gB r0 0)) (.leaf (2,[(.b false)])) (.leaf (0,[(.r y0),(.i (qh .i64 y1 1)),(.s y2),(.s y3),(.s y4),(.s y5),(.s y6)]))) .fail) .fail) (.leaf (1,[]))):=by kernel_rfl
theorem qnz(x0:R)(x1:Int)(x2:Int)(x3:Int):vV [.r x0,.i x1,.i x2,.i x3]=(let r0:TR:=(kH [(.r x0),(.i x1),(.i x2),(.i x3)])
 .br (okR r0) (.br (not (gB r0 5)) (.leaf (0,[(.b false)])) (let r1:TR:=(qg q45 [(.r x0),(.i 0),(.s (gS r0 0)),(.s (gS r0 1)),(.s (gS r0 2)),(.s (gS r0 3)),(.s (gS r0 4))])
 .br (okR r1) (.br (jIs r1 0) (.leaf (0,[(.b true)])) (.leaf (0,[(.b (gB r1 0))]))) .fail)) .fail):=by kernel_rfl
theorem qeo(y0:R)(y1:Int)(y2:Int)(y3:Int)(y4:Int):q5n [.r y0,.i y1,.i y2,.i y3,.i y4]=(.br (ilt y1 (qj y0)) (let r0:TR:=(vV [(.r y0),(.i y1),(.i y1),(.i 0)])
 .br (okR r0) (.br (gB r0 0) (.leaf (2,[(.b true),(.i y1),(.i y1),(.i 0)])) (.leaf (0,[(.r y0),(.i (qh .i64 y1 1)),(.i y2),(.i y3),(.i y4)]))) .fail) (.leaf (1,[(.r y0),(.i y2),(.i y3),(.i y4)]))):=by kernel_rfl
theorem qc5(y0:R)(y1:Int)(y2:Int)(y3:Int)(y4:Int)(y5:Int)(y6:Int)(y7:Int)(y8:R):q4a [.r y0,.i y1,.i y2,.i y3,.i y4,.i y5,.i y6,.i y7,.r y8]=(.br (ilt y4 y3) (.br (inb y4 (qj y8)) (let r0:TR:=(vV [(.r y0),(.i y1),(.i y2),(.i (cI y8 y4 0))])
 .br (okR r0) (.br (gB r0 0) (.leaf (2,[(.b true),(.i y1),(.i y2),(.i (cI y8 y4 0))])) (.leaf (0,[(.r y0),(.i y1),(.i y2),(.i y3),(.i (qh .i64 y4 1)),(.i y5),(.i y6),(.i y7),(.r y8)]))) .fail) .fail) (.leaf (1,[(.r y0),(.i y1),(.i y2),(.i y5),(.i y6),(.i y7)]))):=by kernel_rfl
theorem qcu(y0:R)(y1:Int)(y2:Int)(y3:Int)(y4:Int)(y5:Int):q3X [.r y0,.i y1,.i y2,.i y3,.i y4,.i y5]=(.br (ilt y2 (qj y0)) (let r0:TR:=(qg q4a [(.r y0),(.i y1),(.i y2),(.i (qj [[(.i 0)],[(.i 1)],[(.i (-1))]])),(.i 0),(.i y3),(.i y4),(.i y5),(.r [[(.i 0)],[(.i 1)],[(.i (-1))]])])
 .br (okR r0) (.br (jIs r0 0) (.leaf (0,[(.r (gR r0 0)),(.i (gI r0 1)),(.i (qh .i64 (gI r0 2) 1)),(.i (gI r0 3)),(.i (gI r0 4)),(.i (gI r0 5))])) (.leaf (2,[(.b (gB r0 0)),(.i (gI r0 1)),(.i (gI r0 2)),(.i (gI r0 3))]))) .fail) (.leaf (1,[(.r y0),(.i y1),(.i y3),(.i y4),(.i y5)]))):=by kernel_rfl
theorem qbM(y0:R)(y1:Int)(y2:Int)(y3:Int)(y4:Int):q41 [.r y0,.i y1,.i y2,.i y3,.i y4]=(.br (ilt y1 (qj y0)) (let r0:TR:=(qg q3X [(.r y0),(.i y1),(.i (qh .i64 y1 1)),(.i y2),(.i y3),(.i y4)])
 .br (okR r0) (.br (jIs r0 0) (.leaf (0,[(.r (gR r0 0)),(.i (qh .i64 (gI r0 1) 1)),(.i (gI r0 2)),(.i (gI r0 3)),(.i (gI r0 4))])) (.leaf (2,[(.b (gB r0 0)),(.i (gI r0 1)),(.i (gI r0 2)),(.i (gI r0 3))]))) .fail) (.leaf (1,[(.i y2),(.i y3),(.i y4)]))):=by kernel_rfl
theorem qpT(x0:R):q8d [.r x0]=(let r0:TR:=(qg q5n [(.r x0),(.i 0),(.i 0),(.i 0),(.i 0)])
 .br (okR r0) (.br (jIs r0 0) (let r1:TR:=(qg q41 [(.r (gR r0 0)),(.i 0),(.i (gI r0 1)),(.i (gI r0 2)),(.i (gI r0 3))])
 .br (okR r1) (.br (jIs r1 0) (.leaf (0,[(.i 0),(.i 0),(.i 0),(.b false)])) (.leaf (0,[(.i (gI r1 1)),(.i (gI r1 2)),(.i (gI r1 3)),(.b (gB r1 0))]))) .fail) (.leaf (0,[(.i (gI r0 1)),(.i (gI r0 2)),(.i (gI r0 3)),(.b (gB r0 0))]))) .fail):=by kernel_rfl
theorem qpy(x0:Int):j9 [.i x0]=(.br (okR (qW [(.i x0)])) (.leaf (0,[(.s (gS (qW [(.i x0)]) 0))])) .fail):=by kernel_rfl
theorem q0F(y0:Int)(y1:Int)(y2:List UInt8)(y3:List UInt8)(y4:List UInt8)(y5:List UInt8)(y6:List UInt8)(y7:R):jE [.i y0,.i y1,.s y2,.s y3,.s y4,.s y5,.s y6,.r y7]=(.br (ilt y1 y0) (.br (inb y1 (qj y7)) (let r0:TR:=(qE [(.s (cS y7 y1 0))])
 .br (okR r0) (.br (ine (gI r0 0) 0) (.leaf (2,[(.b false),(.i (gI r0 0))])) (.leaf (0,[(.i y0),(.i (qh .i64 y1 1)),(.s y2),(.s y3),(.s y4),(.s y5),(.s y6),(.r y7)]))) .fail) .fail) (.leaf (1,[(.s y2),(.s y3),(.s y4),(.s y5),(.s y6)]))):=by kernel_rfl
theorem qcj(x0:List UInt8)(x1:List UInt8)(x2:List UInt8)(x3:List UInt8)(x4:List UInt8):zQ [.s x0,.s x1,.s x2,.s x3,.s x4]=(let r0:TR:=(jZ [(.s x0),(.s x1),(.s x2)])
 .br (okR r0) (.br (ine (gI r0 0) 0) (.leaf (0,[(.b false),(.i (gI r0 0))])) (let r1:TR:=(qg jE [(.i (qj [[(.s x3)],[(.s x4)]])),(.i 0),(.s x0),(.s x1),(.s x2),(.s x3),(.s x4),(.r [[(.s x3)],[(.s x4)]])])
 .br (okR r1) (.br (jIs r1 0) (let r2:TR:=(jI [(.s (gS r1 0)),(.s (gS r1 1)),(.s (gS r1 3)),(.s (gS r1 4)),(.i 0)])
 .br (okR r2) (let r3:TR:=(jw [(.s (gS r2 0)),(.s (gS r1 2)),(.i (gI r2 1))])
 .br (okR r3) (.br (ile (gI r3 0) 0) (.leaf (0,[(.b (ieq (gI r3 1) 0)),(.i (gI r3 1))])) (.leaf (0,[(.b false),(.i (gI r3 1))]))) .fail) .fail) (.leaf (0,[(.b (gB r1 0)),(.i (gI r1 1))]))) .fail)) .fail):=by kernel_rfl
theorem qui(x0:R)(x1:R):q9q [.r x0,.r x1]=(.br (ile (qj x0) 32) (.leaf (0,[(.b (ile (qj x1) 32))])) (.leaf (0,[(.b false)]))):=by kernel_rfl
theorem qwd(x0:Int):yC [.i x0]=(.br (ile (-100000) x0) (.leaf (0,[(.b (ile x0 100000))])) (.leaf (0,[(.b false)]))):=by kernel_rfl
theorem qsv(x0:Int):jj [.i x0]=(.br (ile 1 x0) (.leaf (0,[(.b (ile x0 100000))])) (.leaf (0,[(.b false)]))):=by kernel_rfl
theorem qpK(x0:Int)(x1:Int)(x2:Int)(x3:Int)(x4:Int)(x5:Int)(x6:Bool):yf [.i x0,.i x1,.i x2,.i x3,.i x4,.i x5,.b x6]=(.br (okR (yC [(.i x0)])) (.br (not (gB (yC [(.i x0)]) 0)) (.leaf (0,[(.i 2)])) (.br (okR (yC [(.i x1)])) (.br (not (gB (yC [(.i x1)]) 0)) (.leaf (0,[(.i 2)])) (.br (okR (jj [(.i x2)])) (.br (not (gB (jj [(.i x2)]) 0)) (.leaf (0,[(.i 2)])) (.br (okR (jj [(.i x3)])) (.br (not (gB (jj [(.i x3)]) 0)) (.leaf (0,[(.i 2)])) (.br (ilt x3 x2) (.leaf (0,[(.i 9)])) (.br (ilt x4 0) (.leaf (0,[(.i 2)])) (.br (ilt 100000 x4) (.leaf (0,[(.i 2)])) (.br (not x6) (.br (ile x2 x4) (.leaf (0,[(.i 2)])) (.br (ilt x5 0) (.leaf (0,[(.i 1)])) (.br (ile 3 x5) (.leaf (0,[(.i 1)])) (.leaf (0,[(.i 0)]))))) (.br (ilt x5 0) (.leaf (0,[(.i 1)])) (.br (ile 3 x5) (.leaf (0,[(.i 1)])) (.leaf (0,[(.i 0)]))))))))) .fail)) .fail)) .fail)) .fail):=by kernel_rfl
theorem qsJ(x0:Int)(x1:Int)(x2:Int):q25 [.i x0,.i x1,.i x2]=(.br (okR (yC [(.i x0)])) (.br (not (gB (yC [(.i x0)]) 0)) (.leaf (0,[(.i 2)])) (.br (okR (yC [(.i x1)])) (.br (not (gB (yC [(.i x1)]) 0)) (.leaf (0,[(.i 2)])) (.br (okR (jj [(.i x2)])) (.br (not (gB (jj [(.i x2)]) 0)) (.leaf (0,[(.i 2)])) (.leaf (0,[(.i 0)]))) .fail)) .fail)) .fail):=by kernel_rfl
theorem q26(y0:R)(y1:R)(y2:R)(y3:Int)(y4:Int):jV [.r y0,.r y1,.r y2,.i y3,.i y4]=(.br (ilt y4 y3) (.br (inb y4 (qj y2)) (let r0:TR:=(yf [(.i (cI y2 y4 0)),(.i (cI y2 y4 1)),(.i (cI y2 y4 2)),(.i (cI y2 y4 3)),(.i (cI y2 y4 4)),(.i (cI y2 y4 5)),(.b (cB y2 y4 6))])
 .br (okR r0) (.br (ine (gI r0 0) 0) (.leaf (2,[(.i (gI r0 0))])) (.leaf (0,[(.r y0),(.r y1),(.r y2),(.i y3),(.i (qh .i64 y4 1))]))) .fail) .fail) (.leaf (1,[(.r y0),(.r y1)]))):=by kernel_rfl
theorem q1n(y0:R)(y1:Int)(y2:Int):ja [.r y0,.i y1,.i y2]=(.br (ilt y2 y1) (.br (inb y2 (qj y0)) (let r0:TR:=(q25 [(.i (cI y0 y2 0)),(.i (cI y0 y2 1)),(.i (cI y0 y2 2))])
 .br (okR r0) (.br (ine (gI r0 0) 0) (.leaf (2,[(.i (gI r0 0))])) (.leaf (0,[(.r y0),(.i y1),(.i (qh .i64 y2 1))]))) .fail) .fail) (.leaf (1,[]))):=by kernel_rfl
theorem qik(x0:R)(x1:R):jC [.r x0,.r x1]=(.br (ilt 16 (qj x0)) (.leaf (0,[(.i 5)])) (let r0:TR:=(qg jV [(.r x0),(.r x1),(.r x0),(.i (qj x0)),(.i 0)])
 .br (okR r0) (.br (jIs r0 0) (.br (ine (qj (gR r0 1)) (qj (gR r0 0))) (.leaf (0,[(.i 8)])) (let r1:TR:=(qg ja [(.r (gR r0 1)),(.i (qj (gR r0 1))),(.i 0)])
 .br (okR r1) (.br (jIs r1 0) (.leaf (0,[(.i 0)])) (.leaf (0,[(.i (gI r1 0))]))) .fail)) (.leaf (0,[(.i (gI r0 0))]))) .fail)):=by kernel_rfl
theorem qcb(y0:R)(y1:Int)(y2:Int)(y3:R)(y4:R)(y5:Int):q11 [.r y0,.i y1,.i y2,.r y3,.r y4,.i y5]=(.br (ilt y2 y1) (.br (inb y2 (qj y0)) (.br (inb y2 (qj y4)) (.br (ilt (cI y4 y2 2) (cI y0 y2 2)) (.leaf (2,[(.i 14)])) (.br (ilt (cI y0 y2 3) (cI y4 y2 2)) (.leaf (2,[(.i 14)])) (.leaf (0,[(.r y0),(.i y1),(.i (qh .i64 y2 1)),(.r y3),(.r y4),(.i y5)])))) .fail) .fail) (.leaf (1,[(.r y3),(.r y4),(.i y5)]))):=by kernel_rfl
theorem qpf(x0:R)(x1:R)(x2:Int):q0z [.r x0,.r x1,.i x2]=(let r0:TR:=(jC [(.r x0),(.r x1)])
 .br (okR r0) (.br (ine (gI r0 0) 0) (.leaf (0,[(.i (gI r0 0))])) (.br (ieq (qj x0) 0) (.leaf (0,[(.i 13)])) (let r1:TR:=(qg q11 [(.r x0),(.i (qj x0)),(.i 0),(.r x0),(.r x1),(.i x2)])
 .br (okR r1) (.br (jIs r1 0) (.br (ilt (gI r1 2) (-1)) (.leaf (0,[(.i 2)])) (.br (ilt 100000 (gI r1 2)) (.leaf (0,[(.i 2)])) (.leaf (0,[(.i 0)])))) (.leaf (0,[(.i (gI r1 0))]))) .fail))) .fail):=by kernel_rfl
theorem qvK(x0:Int)(x1:Int)(x2:Int)(x3:Int)(x4:Int)(x5:Int)(x6:Bool):qbO [.i x0,.i x1,.i x2,.i x3,.i x4,.i x5,.b x6]=(.br x6 (.br (ieq x5 2) (.leaf (0,[(.i x0),(.i x1),(.i x2),(.i x3),(.i x4),(.i x5),(.b x6),(.i (cI [[(.i (-1)),(.i (-1)),(.i 1),(.i 1),(.i 1),(.i (-1))]] 0 5))])) (.br (ieq x5 1) (.leaf (0,[(.i x0),(.i x1),(.i x2),(.i x3),(.i x4),(.i x5),(.b x6),(.i (cI [[(.i (-1)),(.i (-1)),(.i 1),(.i 1),(.i 1),(.i (-1))]] 0 4))])) (.br (ieq x5 0) (.leaf (0,[(.i x0),(.i x1),(.i x2),(.i x3),(.i x4),(.i x5),(.b x6),(.i (cI [[(.i (-1)),(.i (-1)),(.i 1),(.i 1),(.i 1),(.i (-1))]] 0 3))])) .fail))) (.br (ieq x5 2) (.leaf (0,[(.i x0),(.i x1),(.i x2),(.i x3),(.i x4),(.i x5),(.b x6),(.i (cI [[(.i (-1)),(.i (-1)),(.i 1),(.i 1),(.i 1),(.i (-1))]] 0 2))])) (.br (ieq x5 1) (.leaf (0,[(.i x0),(.i x1),(.i x2),(.i x3),(.i x4),(.i x5),(.b x6),(.i (cI [[(.i (-1)),(.i (-1)),(.i 1),(.i 1),(.i 1),(.i (-1))]] 0 1))])) (.br (ieq x5 0) (.leaf (0,[(.i x0),(.i x1),(.i x2),(.i x3),(.i x4),(.i x5),(.b x6),(.i (cI [[(.i (-1)),(.i (-1)),(.i 1),(.i 1),(.i 1),(.i (-1))]] 0 0))])) .fail)))):=by kernel_rfl
theorem qeC(x0:Int)(x1:Int)(x2:Int)(x3:Int)(x4:Int)(x5:Int)(x6:Bool)(x7:Int)(x8:Int):jl [.i x0,.i x1,.i x2,.i x3,.i x4,.i x5,.b x6,.i x7,.i x8]=(.br (ilt x8 0) (.leaf (0,[(.i x2)])) (.leaf (0,[(.i x3)]))):=by kernel_rfl
theorem qbP(x0:Int)(x1:Int)(x2:Int)(x3:Int)(x4:Int)(x5:Int)(x6:Bool)(x7:Int)(x8:Int):vu [.i x0,.i x1,.i x2,.i x3,.i x4,.i x5,.b x6,.i x7,.i x8]=(.br (ieq x5 0) (.leaf (0,[(.i 0)])) (let r0:TR:=(jl [(.i x0),(.i x1),(.i x2),(.i x3),(.i x4),(.i x5),(.b x6),(.i x7),(.i x7)])
 .br (okR r0) (.leaf (0,[(.i (u7 .i64 x7 (qv .i64 (gI r0 0) x8)))])) .fail)):=by kernel_rfl
theorem qoe(x0:Int)(x1:Int)(x2:Int)(x3:Int)(x4:Int)(x5:Int)(x6:Bool)(x7:Int):q3P [.i x0,.i x1,.i x2,.i x3,.i x4,.i x5,.b x6,.i x7]=(.br (ile x2 x7) (.leaf (0,[(.b (ile x7 x3))])) (.leaf (0,[(.b false)]))):=by kernel_rfl
theorem qq1(x0:Int)(x1:Int)(x2:Int)(x3:Int)(x4:Int)(x5:Int)(x6:Bool)(x7:Int):q53 [.i x0,.i x1,.i x2,.i x3,.i x4,.i x5,.b x6,.i x7]=(let r0:TR:=(yf [(.i x0),(.i x1),(.i x2),(.i x3),(.i x4),(.i x5),(.b x6)])
 .br (okR r0) (.br (ine (gI r0 0) 0) (.leaf (0,[(.i 0),(.i (gI r0 0))])) (let r1:TR:=(q3P [(.i x0),(.i x1),(.i x2),(.i x3),(.i x4),(.i x5),(.b x6),(.i x7)])
 .br (okR r1) (.br (not (gB r1 0)) (.leaf (0,[(.i 0),(.i 2)])) (let r2:TR:=(qbO [(.i x0),(.i x1),(.i x2),(.i x3),(.i x4),(.i x5),(.b x6)])
 .br (okR r2) (let r3:TR:=(vu [(.i (gI r2 0)),(.i (gI r2 1)),(.i (gI r2 2)),(.i (gI r2 3)),(.i (gI r2 4)),(.i (gI r2 5)),(.b (gB r2 6)),(.i (gI r2 7)),(.i x7)])
 .br (okR r3) (.leaf (0,[(.i (gI r3 0)),(.i 0)])) .fail) .fail)) .fail)) .fail):=by kernel_rfl
theorem qm4(x0:Int)(x1:Int)(x2:Int)(x3:Int)(x4:Int)(x5:Int)(x6:Bool)(x7:Int):yS [.i x0,.i x1,.i x2,.i x3,.i x4,.i x5,.b x6,.i x7]=(let r0:TR:=(q53 [(.i x0),(.i x1),(.i x2),(.i x3),(.i x4),(.i x5),(.b x6),(.i x7)])
 .br (okR r0) (.br (ine (gI r0 1) 0) (.leaf (0,[(.i 0),(.i (gI r0 1))])) (.leaf (0,[(.i (qh .i64 x4 (gI r0 0))),(.i 0)]))) .fail):=by kernel_rfl
theorem qfn(y0:List UInt8)(y1:List UInt8)(y2:Int)(y3:Int)(y4:R):q13 [.s y0,.s y1,.i y2,.i y3,.r y4]=(.br (ilt y3 y2) (.br (inb y3 (qj y4)) (let r0:TR:=(qJ [(.s (cS y4 y3 0))])
 .br (okR r0) (.br (ine (gI r0 0) 0) (.leaf (2,[(.s []),(.i (gI r0 0))])) (.leaf (0,[(.s y0),(.s y1),(.i y2),(.i (qh .i64 y3 1)),(.r y4)]))) .fail) .fail) (.leaf (1,[(.s y0),(.s y1)]))):=by kernel_rfl
theorem qrT(x0:List UInt8)(x1:List UInt8):q6W [.s x0,.s x1]=(let r0:TR:=(qg q13 [(.s x0),(.s x1),(.i (qj [[(.s x0)],[(.s x1)]])),(.i 0),(.r [[(.s x0)],[(.s x1)]])])
 .br (okR r0) (.br (jIs r0 0) (.br (seq (gS r0 1) [48]) (.leaf (0,[(.s []),(.i 10)])) (let r1:TR:=(qA [(.s (gS r0 0)),(.s (gS r0 1)),(.i 0)])
 .br (okR r1) (.br (ine (gI r1 1) 0) (.leaf (0,[(.s []),(.i (gI r1 1))])) (.leaf (0,[(.s (gS r1 0)),(.i 0)]))) .fail)) (.leaf (0,[(.s (gS r0 0)),(.i (gI r0 1))]))) .fail):=by kernel_rfl
theorem qvj(x0:Int)(x1:Int):qc9 [.i x0,.i x1]=(let r0:TR:=(zi [(.i x0)])
 .br (okR r0) (let r1:TR:=(zi [(.i x1)])
 .br (okR r1) (let r2:TR:=(q6W [(.s (gS r0 0)),(.s (gS r1 0))])
 .br (okR r2) (.leaf (0,[(.s (gS r2 0)),(.i (gI r2 1))])) .fail) .fail) .fail):=by kernel_rfl
theorem qpj(x0:Int):q2C [.i x0]=(.br (okR (zi [(.i x0)])) (.leaf (0,[(.s (gS (zi [(.i x0)]) 0))])) .fail):=by kernel_rfl
theorem qom(x0:Int)(x1:Int)(x2:Int):yp [.i x0,.i x1,.i x2]=(let r0:TR:=(qc9 [(.i (u7 .i64 x2 x2)),(.i 4)])
 .br (okR r0) (.br (ine (gI r0 1) 0) (.leaf (0,[(.s []),(.s []),(.s []),(.i (gI r0 1))])) (let r1:TR:=(q2C [(.i x0)])
 .br (okR r1) (let r2:TR:=(q2C [(.i x1)])
 .br (okR r2) (.leaf (0,[(.s (gS r1 0)),(.s (gS r2 0)),(.s (gS r0 0)),(.i 0)])) .fail) .fail)) .fail):=by kernel_rfl
theorem q5k(y0:R)(y1:Int)(y2:Int)(y3:R)(y4:R)(y5:Int)(y6:R):wo [.r y0,.i y1,.i y2,.r y3,.r y4,.i y5,.r y6]=(.br (ilt y2 y1) (.br (inb y2 (qj y0)) (.br (inb y2 (qj y4)) (let r0:TR:=(yS [(.i (cI y0 y2 0)),(.i (cI y0 y2 1)),(.i (cI y0 y2 2)),(.i (cI y0 y2 3)),(.i (cI y0 y2 4)),(.i (cI y0 y2 5)),(.b (cB y0 y2 6)),(.i (cI y4 y2 2))])
 .br (okR r0) (.br (ine (gI r0 1) 0) (.leaf (2,[(.i (gI r0 1))])) (let r1:TR:=(yp [(.i (qv .i64 (cI y0 y2 0) (cI y4 y2 0))),(.i (qv .i64 (cI y0 y2 1) (cI y4 y2 1))),(.i (gI r0 0))])
 .br (okR r1) (.br (ine (gI r1 3) 0) (.leaf (2,[(.i (gI r1 3))])) (.br (ile ((qj y6)+(qj [[(.s (gS r1 0)),(.s (gS r1 1)),(.s (gS r1 2))]])) 2932031007402) (.leaf (0,[(.r y0),(.i y1),(.i (qh .i64 y2 1)),(.r y3),(.r y4),(.i y5),(.r (qc3 y6 [[(.s (gS r1 0)),(.s (gS r1 1)),(.s (gS r1 2))]]))])) .fail)) .fail)) .fail) .fail) .fail) (.leaf (1,[(.r y6)]))):=by kernel_rfl
theorem qfl(x0:R)(x1:R)(x2:Int):we [.r x0,.r x1,.i x2]=(let r0:TR:=(qg wo [(.r x0),(.i (qj x0)),(.i 0),(.r x0),(.r x1),(.i x2),(.r [])])
 .br (okR r0) (.br (jIs r0 0) (.leaf (0,[(.r (gR r0 0)),(.i 0)])) (.leaf (0,[(.r []),(.i (gI r0 0))]))) .fail):=by kernel_rfl
theorem qm8(x0:R)(x1:Int):yM [.r x0,.i x1]=(.br (ilt x1 0) (.leaf (0,[(.r x0),(.i 0)])) (let r0:TR:=(yp [(.i 0),(.i 0),(.i x1)])
 .br (okR r0) (.br (ine (gI r0 3) 0) (.leaf (0,[(.r []),(.i (gI r0 3))])) (.br (q4D (qj x0) (qj x0)) (.br (q4D 0 (qj x0)) (.br (ieq (qj x0) (qj x0)) (.br (ilt 0 (qj [[(.s (gS r0 0)),(.s (gS r0 1)),(.s (gS r0 2))]])) (.br (ile ((qj (qt3 x0 0 (qj x0)))+(qj [[(.s (gS r0 0)),(.s (gS r0 1)),(.s (gS r0 2))]])) 2932031007402) (.leaf (0,[(.r (qc3 (qt3 x0 0 (qj x0)) [[(.s (gS r0 0)),(.s (gS r0 1)),(.s (gS r0 2))]])),(.i 0)])) .fail) .fail) .fail) .fail) .fail)) .fail)):=by kernel_rfl
theorem qpt(x0:R)(x1:R)(x2:Int):zY [.r x0,.r x1,.i x2]=(let r0:TR:=(q0z [(.r x0),(.r x1),(.i x2)])
 .br (okR r0) (.br (ine (gI r0 0) 0) (.leaf (0,[(.r []),(.i (gI r0 0))])) (let r1:TR:=(we [(.r x0),(.r x1),(.i x2)])
 .br (okR r1) (.br (ine (gI r1 1) 0) (.leaf (0,[(.r []),(.i (gI r1 1))])) (let r2:TR:=(yM [(.r (gR r1 0)),(.i x2)])
 .br (okR r2) (.leaf (0,[(.r (gR r2 0)),(.i (gI r2 1))])) .fail)) .fail)) .fail):=by kernel_rfl
theorem qfT(y0:R)(y1:Int)(y2:Int)(y3:List UInt8)(y4:List UInt8)(y5:R):q1c [.r y0,.i y1,.i y2,.s y3,.s y4,.r y5]=(.br (ilt y2 y1) (.br (inb y2 (qj y5)) (let r0:TR:=(qE [(.s (cS y5 y2 0))])
 .br (okR r0) (.br (ine (gI r0 0) 0) (.leaf (2,[(.b false),(.i (gI r0 0))])) (.leaf (0,[(.r y0),(.i y1),(.i (qh .i64 y2 1)),(.s y3),(.s y4),(.r y5)]))) .fail) .fail) (.leaf (1,[(.r y0),(.s y3),(.s y4)]))):=by kernel_rfl
theorem qed(y0:R)(y1:Int)(y2:Int)(y3:List UInt8)(y4:List UInt8):q08 [.r y0,.i y1,.i y2,.s y3,.s y4]=(.br (ilt y2 y1) (.br (inb y2 (qj y0)) (let r0:TR:=(zQ [(.s (cS y0 y2 0)),(.s (cS y0 y2 1)),(.s (cS y0 y2 2)),(.s y3),(.s y4)])
 .br (okR r0) (.br (ine (gI r0 1) 0) (.leaf (2,[(.b false),(.i (gI r0 1))])) (.br (not (gB r0 0)) (.leaf (2,[(.b false),(.i (gI r0 1))])) (.leaf (0,[(.r y0),(.i y1),(.i (qh .i64 y2 1)),(.s y3),(.s y4)])))) .fail) .fail) (.leaf (1,[]))):=by kernel_rfl
theorem qsK(x0:R)(x1:R)(x2:Int)(x3:List UInt8)(x4:List UInt8):yv [.r x0,.r x1,.i x2,.s x3,.s x4]=(let r0:TR:=(zY [(.r x0),(.r x1),(.i x2)])
 .br (okR r0) (.br (ine (gI r0 1) 0) (.leaf (0,[(.b false),(.i (gI r0 1))])) (let r1:TR:=(qg q1c [(.r (gR r0 0)),(.i (qj [[(.s x3)],[(.s x4)]])),(.i 0),(.s x3),(.s x4),(.r [[(.s x3)],[(.s x4)]])])
 .br (okR r1) (.br (jIs r1 0) (let r2:TR:=(qg q08 [(.r (gR r1 0)),(.i (qj (gR r1 0))),(.i 0),(.s (gS r1 1)),(.s (gS r1 2))])
 .br (okR r2) (.br (jIs r2 0) (.leaf (0,[(.b true),(.i 0)])) (.leaf (0,[(.b (gB r2 0)),(.i (gI r2 1))]))) .fail) (.leaf (0,[(.b (gB r1 0)),(.i (gI r1 1))]))) .fail)) .fail):=by kernel_rfl
theorem qkG(x0:R)(x1:R)(x2:Int):zP [.r x0,.r x1,.i x2]=(let r0:TR:=(zY [(.r x0),(.r x1),(.i x2)])
 .br (okR r0) (.br (ine (gI r0 1) 0) (.leaf (0,[(.b false),(.i 0),(.i 0),(.i 0),(.i (gI r0 1))])) (let r1:TR:=(uV [(.r (gR r0 0))])
 .br (okR r1) (.leaf (0,[(.b (gB r1 0)),(.i (gI r1 1)),(.i (gI r1 2)),(.i (gI r1 3)),(.i (gI r1 4))])) .fail)) .fail):=by kernel_rfl
theorem qeD(x0:R)(x1:R)(x2:Int):jd [.r x0,.r x1,.i x2]=(let r0:TR:=(zY [(.r x0),(.r x1),(.i x2)])
 .br (okR r0) (.br (ine (gI r0 1) 0) (.leaf (0,[(.r []),(.i (gI r0 1))])) (let r1:TR:=(jf [(.r (gR r0 0))])
 .br (okR r1) (.leaf (0,[(.r (gR r1 0)),(.i (gI r1 1))])) .fail)) .fail):=by kernel_rfl
theorem qeB(x0:Int)(x1:R)(x2:Int):zo [.i x0,.r x1,.i x2]=(let r0:TR:=(yM [(.r x1),(.i x0)])
 .br (okR r0) (.br (ine (gI r0 1) 0) (.leaf (0,[(.b true),(.r x1),(.i (gI r0 1))])) (let r1:TR:=(uV [(.r (gR r0 0))])
 .br (okR r1) (.br (ine (gI r1 4) 0) (.leaf (0,[(.b true),(.r x1),(.i (gI r1 4))])) (.leaf (0,[(.b (gB r1 0)),(.r x1),(.i x2)]))) .fail)) .fail):=by kernel_rfl
theorem qm5(y0:Int)(y1:Int)(y2:R)(y3:Int):q22 [.i y0,.i y1,.r y2,.i y3]=(.br (ilt y0 y1) (let r0:TR:=(zo [(.i (jo .i64 (qh .i64 y0 y1) 2)),(.r y2),(.i y3)])
 .br (okR r0) (.br (gB r0 0) (.leaf (0,[(.i y0),(.i (jo .i64 (qh .i64 y0 y1) 2)),(.r (gR r0 1)),(.i (gI r0 2))])) (.leaf (0,[(.i (qh .i64 (jo .i64 (qh .i64 y0 y1) 2) 1)),(.i y1),(.r (gR r0 1)),(.i (gI r0 2))]))) .fail) (.leaf (1,[(.i y0),(.r y2),(.i y3)]))):=by kernel_rfl
theorem qpD(x0:Int)(x1:Int)(x2:R)(x3:Int):q5F [.i x0,.i x1,.r x2,.i x3]=(let r0:TR:=(qg q22 [(.i x0),(.i x1),(.r x2),(.i x3)])
 .br (okR r0) (.leaf (0,[(.i (gI r0 0)),(.r (gR r0 1)),(.i (gI r0 2))])) .fail):=by kernel_rfl
theorem qnw(x0:R)(x1:R)(x2:Int):yn [.r x0,.r x1,.i x2]=(let r0:TR:=(q0z [(.r x0),(.r x1),(.i x2)])
 .br (okR r0) (.br (ine (gI r0 0) 0) (.leaf (0,[(.i 0),(.i (gI r0 0))])) (let r1:TR:=(we [(.r x0),(.r x1),(.i x2)])
 .br (okR r1) (.br (ine (gI r1 1) 0) (.leaf (0,[(.i 0),(.i (gI r1 1))])) (let r2:TR:=(zo [(.i 100000),(.r (gR r1 0)),(.i 0)])
 .br (okR r2) (.br (not (gB r2 0)) (.leaf (0,[(.i 0),(.i 6)])) (let r3:TR:=(q5F [(.i 0),(.i 100000),(.r (gR r2 1)),(.i (gI r2 2))])
 .br (okR r3) (.br (ine (gI r3 2) 0) (.leaf (0,[(.i 0),(.i (gI r3 2))])) (.leaf (0,[(.i (gI r3 0)),(.i 0)]))) .fail)) .fail)) .fail)) .fail):=by kernel_rfl
theorem qsQ(x0:Int)(x1:Int)(x2:Int):q4p [.i x0,.i x1,.i x2]=(.leaf (0,[(.r [[(.i 0),(.i 0),(.i 20),(.i 24),(.i 4),(.i 1),(.b false)],[(.i 50),(.i 0),(.i 20),(.i 24),(.i 4),(.i 1),(.b false)]]),(.r [[(.i x0),(.i 0),(.i x2)],[(.i x1),(.i 0),(.i x2)]]),(.i (-1))])):=by kernel_rfl
theorem qp7  : zV []=(let r0:TR:=(q4p [(.i 3),(.i 53),(.i 20)])
 .br (okR r0) (let r1:TR:=(zP [(.r (gR r0 0)),(.r (gR r0 1)),(.i (gI r0 2))])
 .br (okR r1) (.br (okR r0) (let r2:TR:=(yv [(.r (gR r0 0)),(.r (gR r0 1)),(.i (gI r0 2)),(.s [45,49]),(.s [48])])
 .br (okR r2) (.br (okR r0) (let r3:TR:=(yn [(.r (gR r0 0)),(.r (gR r0 1)),(.i (gI r0 2))])
 .br (okR r3) (.br (ine (qh .i64 (qh .i64 (gI r1 4) (gI r2 1)) (gI r3 1)) 0) (.leaf (0,[(.b false)])) (.br (not (gB r1 0)) (.leaf (0,[(.b false)])) (.br (not (gB r2 0)) (.leaf (0,[(.b false)])) (.br (ine (gI r3 0) 2) (.leaf (0,[(.b false)])) (let r4:TR:=(q4p [(.i (-3)),(.i 53),(.i 20)])
 .br (okR r4) (let r5:TR:=(zP [(.r (gR r4 0)),(.r (gR r4 1)),(.i (gI r4 2))])
 .br (okR r5) (.br (okR r4) (let r6:TR:=(jd [(.r (gR r4 0)),(.r (gR r4 1)),(.i (gI r4 2))])
 .br (okR r6) (let r7:TR:=(q4p [(.i (-3)),(.i 53),(.i 22)])
 .br (okR r7) (let r8:TR:=(yv [(.r (gR r7 0)),(.r (gR r7 1)),(.i (gI r7 2)),(.s [48]),(.s [48])])
 .br (okR r8) (.br (okR r0) (let r9:TR:=(zY [(.r (gR r0 0)),(.r (gR r0 1)),(.i (gI r0 2))])
 .br (okR r9) (.br (ieq (qh .i64 (qh .i64 (qh .i64 (gI r5 4) (gI r6 1)) (gI r8 1)) (gI r9 1)) 0) (.br (not (gB r5 0)) (.br (gB r8 0) (let r10:TR:=(vM [(.r (gR r6 0)),(.r [[(.i 0)],[(.i 1)]])])
 .br (okR r10) (.br (gB r10 0) (.br (ieq (qj (gR r9 0)) 2) (.br (inb 0 (qj (gR r9 0))) (.leaf (0,[(.b (qAJ (qAJ (seq (cS (gR r9 0) 0 0) [45,51]) (qAJ (seq (cS (gR r9 0) 0 1) [48]) true)) (qAJ (seq (cS (gR r9 0) 0 2) [52]) true)))])) .fail) (.leaf (0,[(.b false)]))) (.leaf (0,[(.b false)]))) .fail) (.leaf (0,[(.b false)]))) (.leaf (0,[(.b false)]))) (.leaf (0,[(.b false)]))) .fail) .fail) .fail) .fail) .fail) .fail) .fail) .fail))))) .fail) .fail) .fail) .fail) .fail) .fail):=by kernel_rfl
theorem qvQ(x0:Int):q4z [.i x0]=(.br (ile (-100000) x0) (.leaf (0,[(.b (ile x0 100000))])) (.leaf (0,[(.b false)]))):=by kernel_rfl
theorem qph(x0:Int)(x1:Int):yg [.i x0,.i x1]=(.br (okR (q4z [(.i x0)])) (.br (gB (q4z [(.i x0)]) 0) (.br (okR (q4z [(.i x1)])) (.leaf (0,[(.b (gB (q4z [(.i x1)]) 0))])) .fail) (.leaf (0,[(.b false)]))) .fail):=by kernel_rfl
theorem qrt(x0:Int):jk [.i x0]=(.br (ile 1 x0) (.leaf (0,[(.b (ile x0 100000))])) (.leaf (0,[(.b false)]))):=by kernel_rfl
theorem qpr(x0:Int)(x1:Int)(x2:Int)(x3:Int)(x4:Int)(x5:Int)(x6:Bool):q0I [.i x0,.i x1,.i x2,.i x3,.i x4,.i x5,.b x6]=(.br (okR (yg [(.i x0),(.i x1)])) (.br (not (gB (yg [(.i x0),(.i x1)]) 0)) (.leaf (0,[(.i 2)])) (.br (okR (jk [(.i x2)])) (.br (not (gB (jk [(.i x2)]) 0)) (.leaf (0,[(.i 2)])) (.br (okR (jk [(.i x3)])) (.br (not (gB (jk [(.i x3)]) 0)) (.leaf (0,[(.i 2)])) (.br (ilt x3 x2) (.leaf (0,[(.i 9)])) (.br (ilt x4 0) (.leaf (0,[(.i 2)])) (.br (ilt 100000 x4) (.leaf (0,[(.i 2)])) (.br (not x6) (.br (ile x2 x4) (.leaf (0,[(.i 2)])) (.br (ilt x5 0) (.leaf (0,[(.i 1)])) (.br (ilt 2 x5) (.leaf (0,[(.i 1)])) (.leaf (0,[(.i 0)]))))) (.br (ilt x5 0) (.leaf (0,[(.i 1)])) (.br (ilt 2 x5) (.leaf (0,[(.i 1)])) (.leaf (0,[(.i 0)]))))))))) .fail)) .fail)) .fail):=by kernel_rfl
theorem qsB(x0:Int)(x1:Int)(x2:Int):q21 [.i x0,.i x1,.i x2]=(.br (okR (yg [(.i x0),(.i x1)])) (.br (not (gB (yg [(.i x0),(.i x1)]) 0)) (.leaf (0,[(.i 2)])) (.br (okR (jk [(.i x2)])) (.br (not (gB (jk [(.i x2)]) 0)) (.leaf (0,[(.i 2)])) (.leaf (0,[(.i 0)]))) .fail)) .fail):=by kernel_rfl
theorem q2l(y0:R)(y1:R)(y2:Int):jU [.r y0,.r y1,.i y2]=(.br (ilt y2 (qj y0)) (.br (inb y2 (qj y0)) (let r0:TR:=(q0I [(.i (cI y0 y2 0)),(.i (cI y0 y2 1)),(.i (cI y0 y2 2)),(.i (cI y0 y2 3)),(.i (cI y0 y2 4)),(.i (cI y0 y2 5)),(.b (cB y0 y2 6))])
 .br (okR r0) (.br (ine (gI r0 0) 0) (.leaf (2,[(.i (gI r0 0))])) (.leaf (0,[(.r y0),(.r y1),(.i (qh .i64 y2 1))]))) .fail) .fail) (.leaf (1,[(.r y0),(.r y1)]))):=by kernel_rfl
theorem q1j(y0:R)(y1:Int):jm [.r y0,.i y1]=(.br (ilt y1 (qj y0)) (.br (inb y1 (qj y0)) (let r0:TR:=(q21 [(.i (cI y0 y1 0)),(.i (cI y0 y1 1)),(.i (cI y0 y1 2))])
 .br (okR r0) (.br (ine (gI r0 0) 0) (.leaf (2,[(.i (gI r0 0))])) (.leaf (0,[(.r y0),(.i (qh .i64 y1 1))]))) .fail) .fail) (.leaf (1,[]))):=by kernel_rfl
theorem qic(x0:R)(x1:R):jx [.r x0,.r x1]=(.br (ilt 16 (qj x0)) (.leaf (0,[(.i 5)])) (let r0:TR:=(qg jU [(.r x0),(.r x1),(.i 0)])
 .br (okR r0) (.br (jIs r0 0) (.br (ine (qj (gR r0 1)) (qj (gR r0 0))) (.leaf (0,[(.i 8)])) (let r1:TR:=(qg jm [(.r (gR r0 1)),(.i 0)])
 .br (okR r1) (.br (jIs r1 0) (.leaf (0,[(.i 0)])) (.leaf (0,[(.i (gI r1 0))]))) .fail)) (.leaf (0,[(.i (gI r0 0))]))) .fail)):=by kernel_rfl
theorem qoa(x0:Int)(x1:Int)(x2:Int)(x3:Int)(x4:Int)(x5:Int)(x6:Bool)(x7:Int):q1f [.i x0,.i x1,.i x2,.i x3,.i x4,.i x5,.b x6,.i x7]=(.br (ile x2 x7) (.leaf (0,[(.b (ile x7 x3))])) (.leaf (0,[(.b false)]))):=by kernel_rfl
theorem qci(y0:Int)(y1:R)(y2:R)(y3:Int):q0L [.i y0,.r y1,.r y2,.i y3]=(.br (ilt y0 (qj y1)) (.br (inb y0 (qj y1)) (.br (inb y0 (qj y2)) (let r0:TR:=(q1f [(.i (cI y1 y0 0)),(.i (cI y1 y0 1)),(.i (cI y1 y0 2)),(.i (cI y1 y0 3)),(.i (cI y1 y0 4)),(.i (cI y1 y0 5)),(.b (cB y1 y0 6)),(.i (cI y2 y0 2))])
 .br (okR r0) (.br (not (gB r0 0)) (.leaf (2,[(.i 14)])) (.leaf (0,[(.i (qh .i64 y0 1)),(.r y1),(.r y2),(.i y3)]))) .fail) .fail) .fail) (.leaf (1,[(.r y1),(.r y2),(.i y3)]))):=by kernel_rfl
theorem qpa(x0:R)(x1:R)(x2:Int):vn [.r x0,.r x1,.i x2]=(let r0:TR:=(jx [(.r x0),(.r x1)])
 .br (okR r0) (.br (ine (gI r0 0) 0) (.leaf (0,[(.i (gI r0 0))])) (.br (ieq (qj x0) 0) (.leaf (0,[(.i 13)])) (let r1:TR:=(qg q0L [(.i 0),(.r x0),(.r x1),(.i x2)])
 .br (okR r1) (.br (jIs r1 0) (.br (ilt (gI r1 2) (-1)) (.leaf (0,[(.i 2)])) (.br (ilt 100000 (gI r1 2)) (.leaf (0,[(.i 2)])) (.leaf (0,[(.i 0)])))) (.leaf (0,[(.i (gI r1 0))]))) .fail))) .fail):=by kernel_rfl
theorem qrB(x0:Int)(x1:Int):qa7 [.i x0,.i x1]=(let r0:TR:=(qW [(.i x0)])
 .br (okR r0) (let r1:TR:=(qW [(.i x1)])
 .br (okR r1) (let r2:TR:=(zz [(.s (gS r0 0)),(.s (gS r1 0))])
 .br (okR r2) (.leaf (0,[(.s (gS r2 0))])) .fail) .fail) .fail):=by kernel_rfl
theorem qoV(x0:Int)(x1:Int)(x2:Int):q16 [.i x0,.i x1,.i x2]=(let r0:TR:=(qa7 [(.i x2),(.i 2)])
 .br (okR r0) (let r1:TR:=(j9 [(.i x0)])
 .br (okR r1) (let r2:TR:=(j9 [(.i x1)])
 .br (okR r2) (let r3:TR:=(qO [(.s (gS r0 0)),(.s (gS r0 0))])
 .br (okR r3) (.leaf (0,[(.s (gS r1 0)),(.s (gS r2 0)),(.s (gS r3 0))])) .fail) .fail) .fail) .fail):=by kernel_rfl
theorem qq3(x0:Int)(x1:Int)(x2:Int)(x3:Int)(x4:Int)(x5:Int)(x6:Bool)(x7:Int):q2W [.i x0,.i x1,.i x2,.i x3,.i x4,.i x5,.b x6,.i x7]=(.br (ieq x5 0) (.leaf (0,[(.i 0)])) (.br (not (beq (ieq x5 1) x6)) (.leaf (0,[(.i (qv .i64 x7 x2))])) (.leaf (0,[(.i (qv .i64 x3 x7))])))):=by kernel_rfl
theorem qhh(y0:Int)(y1:R)(y2:R)(y3:Int)(y4:R):q5G [.i y0,.r y1,.r y2,.i y3,.r y4]=(.br (ilt y0 (qj y1)) (.br (inb y0 (qj y1)) (.br (inb y0 (qj y2)) (let r0:TR:=(q2W [(.i (cI y1 y0 0)),(.i (cI y1 y0 1)),(.i (cI y1 y0 2)),(.i (cI y1 y0 3)),(.i (cI y1 y0 4)),(.i (cI y1 y0 5)),(.b (cB y1 y0 6)),(.i (cI y2 y0 2))])
 .br (okR r0) (let r1:TR:=(q16 [(.i (qv .i64 (cI y1 y0 0) (cI y2 y0 0))),(.i (qv .i64 (cI y1 y0 1) (cI y2 y0 1))),(.i (qh .i64 (cI y1 y0 4) (gI r0 0)))])
 .br (okR r1) (.br (ile ((qj y4)+(qj [[(.s (gS r1 0)),(.s (gS r1 1)),(.s (gS r1 2))]])) 2932031007402) (.leaf (0,[(.i (qh .i64 y0 1)),(.r y1),(.r y2),(.i y3),(.r (qc3 y4 [[(.s (gS r1 0)),(.s (gS r1 1)),(.s (gS r1 2))]]))])) .fail) .fail) .fail) .fail) .fail) (.leaf (1,[(.r y1),(.r y2),(.i y3),(.r y4)]))):=by kernel_rfl
theorem qta(x0:R)(x1:R)(x2:Int):qd1 [.r x0,.r x1,.i x2]=(let r0:TR:=(qg q5G [(.i 0),(.r x0),(.r x1),(.i x2),(.r [])])
 .br (okR r0) (.br (ile 0 (gI r0 2)) (let r1:TR:=(q16 [(.i 0),(.i 0),(.i (gI r0 2))])
 .br (okR r1) (.br (ile ((qj (gR r0 3))+(qj [[(.s (gS r1 0)),(.s (gS r1 1)),(.s (gS r1 2))]])) 2932031007402) (.leaf (0,[(.r (qc3 (gR r0 3) [[(.s (gS r1 0)),(.s (gS r1 1)),(.s (gS r1 2))]]))])) .fail) .fail) (.leaf (0,[(.r (gR r0 3))]))) .fail):=by kernel_rfl
theorem qt4(x0:R)(x1:R)(x2:Int):q8T [.r x0,.r x1,.i x2]=(.leaf (0,[(.r x0),(.r x1),(.i x2)])):=by kernel_rfl
theorem qps(x0:List UInt8):q0u [.s x0]=(let r0:TR:=(zS [(.s x0)])
 .br (okR r0) (.br (ile (qm (gS r0 0)) 30) (.leaf (0,[(.b (ile (qm (gS r0 1)) 30))])) (.leaf (0,[(.b false)]))) .fail):=by kernel_rfl
theorem qtK(x0:R)(x1:R)(x2:Int):q9w [.r x0,.r x1,.i x2]=(let r0:TR:=(q9q [(.r x0),(.r x1)])
 .br (okR r0) (.br (gB r0 0) (.br (ile (qj x0) 4) (.br (ile (qj x1) 4) (.leaf (0,[(.b true)])) (let r1:TR:=(vn [(.r x0),(.r x1),(.i x2)])
 .br (okR r1) (.leaf (0,[(.b (ine (gI r1 0) 0))])) .fail)) (let r1:TR:=(vn [(.r x0),(.r x1),(.i x2)])
 .br (okR r1) (.leaf (0,[(.b (ine (gI r1 0) 0))])) .fail)) (.leaf (0,[(.b false)]))) .fail):=by kernel_rfl
theorem qs7(x0:R)(x1:R)(x2:Int)(x3:Int):qfb [.r x0,.r x1,.i x2,.i x3]=(.leaf (0,[(.r x0),(.r x1),(.i x3)])):=by kernel_rfl
theorem qku(x0:R)(x1:R)(x2:Int)(x3:Int):u6 [.r x0,.r x1,.i x2,.i x3]=(let r0:TR:=(qfb [(.r x0),(.r x1),(.i x2),(.i x3)])
 .br (okR r0) (let r1:TR:=(qd1 [(.r (gR r0 0)),(.r (gR r0 1)),(.i (gI r0 2))])
 .br (okR r1) (let r2:TR:=(q8d [(.r (gR r1 0))])
 .br (okR r2) (.leaf (0,[(.b (gB r2 3))])) .fail) .fail) .fail):=by kernel_rfl
theorem qiJ(y0:Int)(y1:Int)(y2:R)(y3:R)(y4:Int):kZ [.i y0,.i y1,.r y2,.r y3,.i y4]=(.br (ilt 0 y1) (.br (ile (qh .i64 y0 y1) 100000) (let r0:TR:=(u6 [(.r y2),(.r y3),(.i y4),(.i (qh .i64 y0 y1))])
 .br (okR r0) (.br (not (gB r0 0)) (.leaf (0,[(.i (qh .i64 y0 y1)),(.i y1),(.r y2),(.r y3),(.i y4)])) (.leaf (0,[(.i y0),(.i (jo .i64 y1 2)),(.r y2),(.r y3),(.i y4)]))) .fail) (.leaf (0,[(.i y0),(.i (jo .i64 y1 2)),(.r y2),(.r y3),(.i y4)]))) (.leaf (1,[(.i y0)]))):=by kernel_rfl
theorem qnT(x0:R)(x1:R)(x2:Int):q6C [.r x0,.r x1,.i x2]=(let r0:TR:=(vn [(.r x0),(.r x1),(.i x2)])
 .br (okR r0) (.br (ine (gI r0 0) 0) (.leaf (0,[(.i 0),(.i (gI r0 0))])) (let r1:TR:=(u6 [(.r x0),(.r x1),(.i x2),(.i 100000)])
 .br (okR r1) (.br (not (gB r1 0)) (.leaf (0,[(.i 0),(.i 6)])) (let r2:TR:=(qg kZ [(.i (-1)),(.i 65536),(.r x0),(.r x1),(.i x2)])
 .br (okR r2) (.leaf (0,[(.i (qh .i64 (gI r2 0) 1)),(.i 0)])) .fail)) .fail)) .fail):=by kernel_rfl
theorem qpA(x0:R)(x1:R)(x2:Int):q0B [.r x0,.r x1,.i x2]=(let r0:TR:=(q8T [(.r x0),(.r x1),(.i x2)])
 .br (okR r0) (let r1:TR:=(q9w [(.r (gR r0 0)),(.r (gR r0 1)),(.i (gI r0 2))])
 .br (okR r1) (.br (gB r1 0) (.br (okR r0) (let r2:TR:=(vn [(.r (gR r0 0)),(.r (gR r0 1)),(.i (gI r0 2))])
 .br (okR r2) (.leaf (0,[(.b (ieq (gI r2 0) 0))])) .fail) .fail) (.leaf (0,[(.b false)]))) .fail) .fail):=by kernel_rfl
theorem q7c(y0:R)(y1:Int)(y2:Int)(y3:R)(y4:R)(y5:Int)(y6:Int)(y7:Int)(y8:List UInt8)(y9:List UInt8)(y10:R)(y11:Int)(y12:R):vA [.r y0,.i y1,.i y2,.r y3,.r y4,.i y5,.i y6,.i y7,.s y8,.s y9,.r y10,.i y11,.r y12]=(.br (ilt y2 y1) (.br (inb y2 (qj y0)) (.br (ile ((qj y12)+(qj [[(.i (qh .i64 (cI y0 y2 0) (wl .i64 y6))),(.i (qh .i64 (cI y0 y2 1) (wl .i64 y7))),(.i (cI y0 y2 2))]])) 5864062014805) (.leaf (0,[(.r y0),(.i y1),(.i (qh .i64 y2 1)),(.r y3),(.r y4),(.i y5),(.i y6),(.i y7),(.s y8),(.s y9),(.r y10),(.i y11),(.r (qc3 y12 [[(.i (qh .i64 (cI y0 y2 0) (wl .i64 y6))),(.i (qh .i64 (cI y0 y2 1) (wl .i64 y7))),(.i (cI y0 y2 2))]]))])) .fail) .fail) (.leaf (1,[(.r y3),(.r y4),(.i y5),(.i y6),(.i y7),(.s y8),(.s y9),(.r y10),(.i y11),(.r y12)]))):=by kernel_rfl
theorem qia(x0:R)(x1:R)(x2:Int)(x3:Int)(x4:Int)(x5:List UInt8)(x6:List UInt8):ur [.r x0,.r x1,.i x2,.i x3,.i x4,.s x5,.s x6]=(let r0:TR:=(q0B [(.r x0),(.r x1),(.i (-1))])
 .br (okR r0) (.br (not (gB r0 0)) (let r1:TR:=(zV [])
 .br (okR r1) (.leaf (0,[(.b (gB r1 0))])) .fail) (let r1:TR:=(q0u [(.s x5)])
 .br (okR r1) (.br (not (gB r1 0)) (let r2:TR:=(zV [])
 .br (okR r2) (.leaf (0,[(.b (gB r2 0))])) .fail) (let r2:TR:=(q0u [(.s x6)])
 .br (okR r2) (.br (not (gB r2 0)) (let r3:TR:=(zV [])
 .br (okR r3) (.leaf (0,[(.b (gB r3 0))])) .fail) (let r3:TR:=(q0E [(.s x5)])
 .br (okR r3) (.br (ine (gI r3 0) 0) (let r4:TR:=(zV [])
 .br (okR r4) (.leaf (0,[(.b (gB r4 0))])) .fail) (let r4:TR:=(q0E [(.s x6)])
 .br (okR r4) (.br (ine (gI r4 0) 0) (let r5:TR:=(zV [])
 .br (okR r5) (.leaf (0,[(.b (gB r5 0))])) .fail) (let r5:TR:=(qg vA [(.r x1),(.i (qj x1)),(.i 0),(.r x0),(.r x1),(.i (-1)),(.i x3),(.i x4),(.s x5),(.s x6),(.r x0),(.i (-1)),(.r [])])
 .br (okR r5) (let r6:TR:=(q0B [(.r (gR r5 7)),(.r (gR r5 9)),(.i (gI r5 8))])
 .br (okR r6) (.br (not (gB r6 0)) (let r7:TR:=(zV [])
 .br (okR r7) (.leaf (0,[(.b (gB r7 0))])) .fail) (let r7:TR:=(zP [(.r (gR r5 0)),(.r (gR r5 1)),(.i (gI r5 2))])
 .br (okR r7) (let r8:TR:=(zP [(.r (gR r5 7)),(.r (gR r5 9)),(.i (gI r5 8))])
 .br (okR r8) (let r9:TR:=(yv [(.r (gR r5 0)),(.r (gR r5 1)),(.i (gI r5 2)),(.s (gS r5 5)),(.s (gS r5 6))])
 .br (okR r9) (let r10:TR:=(j9 [(.i (wl .i64 (gI r5 3)))])
 .br (okR r10) (let r11:TR:=(qY [(.s (gS r5 5)),(.s (gS r10 0))])
 .br (okR r11) (let r12:TR:=(j9 [(.i (wl .i64 (gI r5 4)))])
 .br (okR r12) (let r13:TR:=(qY [(.s (gS r5 6)),(.s (gS r12 0))])
 .br (okR r13) (let r14:TR:=(yv [(.r (gR r5 7)),(.r (gR r5 9)),(.i (gI r5 8)),(.s (gS r11 0)),(.s (gS r13 0))])
 .br (okR r14) (.br (ieq (qh .i64 (qh .i64 (qh .i64 (gI r7 4) (gI r8 4)) (gI r9 1)) (gI r14 1)) 0) (.br (beq (gB r7 0) (gB r8 0)) (.br (beq (gB r9 0) (gB r14 0)) (.br (not (gB r9 0)) (let r15:TR:=(zV [])
 .br (okR r15) (.leaf (0,[(.b (gB r15 0))])) .fail) (.br (gB r7 0) (let r15:TR:=(zV [])
 .br (okR r15) (.leaf (0,[(.b (gB r15 0))])) .fail) (.leaf (0,[(.b false)])))) (.leaf (0,[(.b false)]))) (.leaf (0,[(.b false)]))) (.leaf (0,[(.b false)]))) .fail) .fail) .fail) .fail) .fail) .fail) .fail) .fail)) .fail) .fail)) .fail)) .fail)) .fail)) .fail)) .fail):=by kernel_rfl
end Go.Eng

namespace Go.Eng
mutual
def qm1{H:Type}:DataW H→List U
 | .lit (.bool b)=>[.b b]
 | .lit (.int _ n)=>[.i n]
 | .lit (.string s)=>[.s s]
 | .nil=>[.l []]
 | .slice es _=>[.l (qte es)]
 | .agg ps=>qyc ps
 | _=>[.i 0]
def qyc{H:Type}:List (DataW H)→List U
 | []=>[]
 | d::l=>qm1 d++qyc l
def qte{H:Type}:List (DataW H)→List (List U)
 | []=>[]
 | d::l=>qm1 d::qte l
end
theorem qj7{H:Type}:∀l:List (DataW H),qte l=l.map qm1
 | []=>rfl
 | d::l=>by simp[qte,qj7 l]
inductive UFit:Sh→U→Prop
 | int (k:IntKind) (n:Int) (h0:k.min≤n) (h1:n≤k.max):UFit (.int k) (.i n)
 | bool (b:Bool):UFit .bool (.b b)
 | str (s:List UInt8) (h:s.length≤maxLen):UFit .str (.s s)
 | sl (row:List Sh) (l:R) (h:l.length≤maxLen) (hl:∀r,r∈l→r.length=row.length) (hf:∀(r:List U) (j:Nat) (s:Sh) (u:U),r∈l→row[j]?=some s→r[j]?=some u→UFit s u):UFit (.sl row) (.l l)
inductive CR (W:World) (M:Nat→Prop):List Sh→List U→List Value→Prop
 | nil:CR W M [] [] []
 | cons {s:Sh} {u:U} {v:Value} {sh:List Sh} {us:List U} {vs:List Value} (h:RepU W M s u v) (f:UFit s u) (t:CR W M sh us vs):CR W M (s::sh) (u::us) (v::vs)
theorem CR.append{W:World}{M:Nat→Prop}{a a':List Sh}{b b':List U}{c c':List Value}(h:CR W M a b c)(k:CR W M a' b' c'):CR W M (a++a') (b++b') (c++c'):=by
 induction h with
 | nil=>exact k
 | cons h f t ih=>exact .cons h f ih
theorem CR.len{W:World}{M:Nat→Prop}{a:List Sh}{b:List U}{c:List Value}(h:CR W M a b c):b.length=a.length∧c.length=a.length:=by
 induction h with
 | nil=>exact⟨rfl,rfl⟩
 | cons h f t ih=>simp[ih.1,ih.2]
theorem CR.get{W:World}{M:Nat→Prop}{a:List Sh}{b:List U}{c:List Value}(h:CR W M a b c):∀(j:Nat) (s:Sh),a[j]?=some s→∃u v,b[j]?=some u∧c[j]?=some v∧RepU W M s u v∧UFit s u:=by
 induction h with
 | nil=>intro j s hj;simp at hj
 | cons h f t ih=>
  intro j s hj
  cases j with
  | zero=>simp at hj;subst hj;exact⟨_,_,rfl,rfl,h,f⟩
  | succ j=>simpa using ih j s (by simpa using hj)
def qrh:Nat→List (Nat×TypeId×Nat)→Bool
 | _,[]=>true
 | o,f::l=>Nat.beq f.1 o&&qrh (o+f.2.2) l
def qxO:List (Nat×TypeId×Nat)→Nat
 | []=>0
 | f::l=>f.2.2+qxO l
def qw6(x:TI):Bool:=match x.d with
 | .struct fs=>qrh 0 fs&&Nat.beq (qxO fs) x.size
 | .array n _ es=>Nat.beq (n*es) x.size
 | .slice _ es=>Nat.blt 0 es
 | _=>true
theorem qBv{E:Env}(h:E.tt.all (fun x=>qw6 x.2)=true)(t:TypeId):qw6 (E.ty t)=true:=by
 unfold Env.ty
 cases hf:E.tt.find? fun x=>x.1==t with
 | none=>rfl
 | some x=>exact List.all_eq_true.1 h x (List.mem_of_find?_eq_some hf)
section
variable {H:Type} {enc:TypeId×Value→H} {P:Program} {W:World} {base:Nat} {sp:Nat→Bool} {held:Bool} {E:Env}
theorem qqw{M:Nat→Prop}{fuel n:Nat}{cs:List Value}(ih:∀t cs d ps sh,E.shape n t=some sh→DataW.trod enc P W base sp held fuel t cs=some (d,ps)→CR W M sh (qm1 d) cs) :
  ∀(fs:List (Nat×TypeId×Nat)) (o:Nat) (xs:List (DataW H×List MemPlace)) (shs:List (List Sh)),qrh o fs=true→o+qxO fs=cs.length→fs.mapM (fun f=>E.shape n f.2.1)=some shs →
   xs.length=fs.length→(∀(i:Nat) (f:Nat×TypeId×Nat),fs[i]?=some f→DataW.trod enc P W base sp held fuel f.2.1 ((cs.drop f.1).take f.2.2)=xs[i]?) →
   CR W M shs.flatten (qyc (xs.map (·.1))) (cs.drop o)
 | [],o,xs,shs,_,hs,hsh,hl,_=>by
  simp[qxO] at hs hsh hl
  subst hsh hl
  have:cs.drop o=[]:=List.drop_eq_nil_of_le (by omega)
  rw[this]
  exact .nil
 | f::fs,o,xs,shs,hlay,hs,hsh,hl,hx=>by
  simp only[qrh,Bool.and_eq_true] at hlay
  obtain⟨h1,h2⟩:=hlay
  have ho:f.1=o:=Nat.eq_of_beq_eq_true h1
  simp only[qxO] at hs
  rw[List.mapM_cons] at hsh
  cases hsf:E.shape n f.2.1 with
  | none=>rw[hsf] at hsh;cases hsh
  | some shf=>
   cases hrest:fs.mapM (fun f=>E.shape n f.2.1) with
   | none=>rw[hsf,hrest] at hsh;cases hsh
   | some shr=>
    rw[hsf,hrest] at hsh
    cases hsh
    cases xs with
    | nil=>simp at hl
    | cons x xs=>
     have h0:=hx 0 f rfl
     simp only[List.getElem?_cons_zero] at h0
     have c1:=ih f.2.1 _ x.1 x.2 shf hsf h0
     rw[ho] at c1
     have c2:=qqw (cs:=cs) (M:=M) (fuel:=fuel) ih fs (o+f.2.2) xs shr h2 (by omega) hrest (by simpa using hl) fun i g hg=>by
      have:=hx (i+1) g (by simpa using hg)
      simpa using this
     have hsplit:cs.drop o=(cs.drop o).take f.2.2++cs.drop (o+f.2.2):=by
      rw[←List.drop_drop,List.take_append_drop]
     rw[hsplit]
     simp only[List.flatten_cons,List.map_cons,qyc]
     exact c1.append c2
theorem qua{M:Nat→Prop}{fuel n es:Nat}{e:TypeId}{cs:List Value}{she:List Sh}(he:E.shape n e=some she)
  (ih:∀t cs d ps sh,E.shape n t=some sh→DataW.trod enc P W base sp held fuel t cs=some (d,ps)→CR W M sh (qm1 d) cs) :
  ∀(m o:Nat) (xs:List (DataW H×List MemPlace)),(o+m)*es=cs.length→xs.length=m→(∀i,i<m→DataW.trod enc P W base sp held fuel e ((cs.drop ((o+i)*es)).take es)=xs[i]?) →
   CR W M (List.replicate m she).flatten (qyc (xs.map (·.1))) (cs.drop (o*es))
 | 0,o,xs,hs,hl,_=>by
  simp at hl hs;subst hl
  have:cs.drop (o*es)=[]:=List.drop_eq_nil_of_le (by omega)
  rw[this]
  exact .nil
 | m+1,o,xs,hs,hl,hx=>by
  cases xs with
  | nil=>simp at hl
  | cons x xs=>
   have h0:=hx 0 (by omega)
   simp only[List.getElem?_cons_zero,Nat.add_zero] at h0
   have c1:=ih e _ x.1 x.2 she he h0
   have c2:=qua (cs:=cs) he ih m (o+1) xs (by rw[←hs];congr 1;omega) (by simpa using hl) fun i hi=>by
    have:=hx (i+1) (by omega)
    rw[show o+(i+1)=o+1+i by omega] at this
    simpa using this
   have hsplit:cs.drop (o*es)=(cs.drop (o*es)).take es++cs.drop ((o+1)*es):=by
    rw[Nat.add_mul,Nat.one_mul,←List.drop_drop,List.take_append_drop]
   rw[hsplit]
   simp only[List.replicate_succ,List.flatten_cons,List.map_cons,qyc]
   exact c1.append c2
theorem qwT(hE:E.tok P)(hlay:E.tt.all (fun x=>qw6 x.2)=true):∀(fuel n:Nat) (t:TypeId) (cs:List Value) (d:DataW H) (ps:List MemPlace) (sh:List Sh),E.shape n t=some sh →
  DataW.trod enc P W base sp held fuel t cs=some (d,ps)→CR W (fun b=>b<W.heap.size) sh (qm1 d) cs:=by
 intro fuel
 induction fuel with
 | zero=>intro n t cs d ps sh _ h;simp[DataW.trod] at h
 | succ fuel ih=>
  intro n t cs d ps sh hsh h
  cases n with
  | zero=>simp[Env.shape] at hsh
  | succ n=>
   simp only[Env.shape] at hsh
   have hl:=qBv hlay t
   unfold qw6 at hl
   cases hd:(E.ty t).d<;>rw[hd] at hsh hl<;>simp only at hsh hl<;>try (cases hsh)
   ·
    unfold DataW.trod at h
    rw[qoF hE hd] at h
    split at h<;>simp_all
    obtain⟨rfl,_⟩:=h
    exact .cons (.bool (.b _)) (.bool _) .nil
   ·
    rename_i k
    unfold DataW.trod at h
    rw[qok hE hd] at h
    split at h<;>simp_all
    obtain⟨⟨rfl,hw⟩,rfl,_⟩:=h
    simp[Lit.wf] at hw
    exact .cons (.int _ (.i _)) (.int _ _ hw.1 hw.2) .nil
   ·
    unfold DataW.trod at h
    rw[qgL hE hd] at h
    split at h<;>simp_all
    rename_i s
    obtain⟨hm,rfl,_⟩:=h
    refine .cons ?_ (.str _ (by simpa using hm)) .nil
    have:=RepU.str (w:=W) (M:=fun b=>b<W.heap.size) (.s s.data.toList)
    simpa[U.toS] using this
   ·
    rename_i e es
    obtain⟨ht,rfl⟩:=q1Q hE hd
    cases he:E.shape n e with
    | none=>rw[he] at hsh;cases hsh
    | some she=>
     rw[he] at hsh
     cases hsh
     have hpos:0<P.cellsOf e:=by simpa[Nat.blt_eq] using hl
     rcases DataW.trod_slice ht h with⟨rfl,hx⟩|⟨a,len,cap,elems,rest,k,hk,rfl,hx,hb,hlc,hcm,hlen,hel,_,_⟩
     ·cases hx
      exact .cons (.slnil _ _ rfl) (.sl _ _ (by simp[maxLen]) (fun r hr=>by cases hr) (fun r j s u hr=>by cases hr)) .nil
     ·cases hx
      cases hk
      have hrow:∀(i:Nat) (hi:i<len),∃cs',W.cells? base (a.add (i*P.cellsOf e)) (P.cellsOf e)=some cs'∧CR W (fun b=>b<W.heap.size) she (qm1 (elems[i]'(by omega)).1) cs':=by
       intro i hi
       have h0:=hel i hi
       rw[List.getElem?_eq_getElem (by omega)] at h0
       obtain⟨cs',g1,g2⟩:=Option.bind_eq_some_iff.1 h0
       exact⟨cs',g1,ih n e cs' _ _ she he g2⟩
      have hget:∀(r:Nat) (hr:r<len),(((elems.map (·.1)).map qm1).getD r []:List U)=qm1 (elems[r]'(by omega)).1:=by
       intro r hr
       simp[List.getD_eq_getElem?_getD,hlen,hr]
      have hcell:∀(r j:Nat) (s:Sh) (hr:r<len),she[j]?=some s→∃v,W.cell? ⟨a.block,a.off+r*she.length+j,none⟩=some v∧RepU W (fun b=>b<W.heap.size) s (wX (qte (elems.map (·.1))) r j) v∧UFit s ((qm1 (elems[r]'(by omega)).1).getD j (.i 0))∧a.spot=none∧a.block<W.heap.size:=by
       intro r j s hr hj
       obtain⟨cs',g1,g2⟩:=hrow r hr
       obtain⟨_,g4,g5⟩:=World.cells?_some g1
       obtain⟨q1,q2⟩:=g2.len
       obtain⟨u,v,e1,e2,e3,e4⟩:=g2.get j s hj
       have hlen:she.length=P.cellsOf e:=by rw[←q2,g4]
       have hjl:j<P.cellsOf e:=by rw[←hlen];exact qu hj
       have hc:=(g5 j hjl).trans e2
       have h00:=g5 0 hpos
       obtain⟨cs0,z1,z2⟩:=hrow 0 (by omega)
       obtain⟨_,z4,z5⟩:=World.cells?_some z1
       have hz:=z5 0 hpos
       obtain⟨v0,hv0⟩:∃v0,cs0[0]?=some v0:=⟨cs0[0],List.getElem?_eq_getElem (by omega)⟩
       rw[hv0] at hz
       simp only[Nat.zero_mul,Addr.add,if_true] at hz
       have hspot:=World.cell?_spot hz
       refine⟨v,?_,?_,?_,hspot,World.block_lt_of_cell? _ _ hz⟩
       ·rw[←hc,Addr.add_of hspot,Addr.add_lit,hlen]
       ·have:wX (qte (elems.map (·.1))) r j=u:=by
         rw[qj7]
         unfold wX
         rw[Int.toNat_natCast,hget r hr]
         simp[List.getD_eq_getElem?_getD,e1]
        rw[this];exact e3
       ·simp[List.getD_eq_getElem?_getD,e1];exact e4
      have hrl:(qte (elems.map (·.1))).length=len:=by rw[qj7];simp[hlen]
      have hsh0:0<len→0<she.length:=by
       intro hl0
       obtain⟨cs',g1,g2⟩:=hrow 0 hl0
       obtain⟨_,g4,_⟩:=World.cells?_some g1
       rw[←g2.len.2,g4];exact hpos
      refine .cons ?_ (.sl _ _ (by rw[hrl];omega) ?_ ?_) .nil
      ·have hR:=qcZ (w:=W) (M:=fun b=>b<W.heap.size) (row:=she) (l:=qte (elems.map (·.1))) (v:=.slice (some a) len cap) (.inr ⟨a,cap,by rw[hrl],fun h0=>by
        rw[hrl] at h0
        obtain⟨_,_,_,_,h4,_⟩:=hcell 0 0 she[0] h0 (List.getElem?_eq_getElem (hsh0 h0))
        exact h4,by rw[hrl];exact hlc,fun r j hj hr=>by
        rw[hrl] at hr
        obtain⟨v,h1,h2,_,_,h5⟩:=hcell r j she[j] hr (List.getElem?_eq_getElem hj)
        exact⟨h5,v,h1,h2⟩⟩)
       exact hR
      ·intro r hr
       rw[qj7] at hr
       obtain⟨i,hi⟩:=List.getElem?_of_mem hr
       have hil:i<len:=by have:=qu hi;simpa[hlen] using this
       have:r=qm1 (elems[i]'(by omega)).1:=by
        rw[←hget i hil,List.getD_eq_getElem?_getD,hi];rfl
       obtain⟨cs',g1,g2⟩:=hrow i hil
       rw[this];exact g2.len.1
      ·intro r j s u hr hs hu
       rw[qj7] at hr
       obtain⟨i,hi⟩:=List.getElem?_of_mem hr
       have hil:i<len:=by have:=qu hi;simpa[hlen] using this
       have:r=qm1 (elems[i]'(by omega)).1:=by
        rw[←hget i hil,List.getD_eq_getElem?_getD,hi];rfl
       subst this
       obtain⟨_,_,_,h3,_⟩:=hcell i j s hil hs
       simpa[List.getD_eq_getElem?_getD,hu] using h3
   ·
    rename_i m e es
    obtain⟨ht,rfl⟩:=qaB hE hd
    cases he:E.shape n e with
    | none=>rw[he] at hsh;cases hsh
    | some she=>
     rw[he] at hsh
     cases hsh
     obtain⟨xs,m0,hf,hx,hcl,hxl,hel⟩:=DataW.trod_array ht h
     cases hf
     cases hx
     have hsz:m*P.cellsOf e=cs.length:=by
      rw[hcl]
      have h1:=Nat.eq_of_beq_eq_true hl
      obtain⟨_,i,dd,h2,_,_,h4,_⟩:=q0x hE (t:=t) (by rw[hd];rfl)
      rw[h1,h4]
      unfold Program.cellsOf
      rw[h2];rfl
     have:=qua (cs:=cs) he (fun t cs d ps sh h1 h2=>ih n t cs d ps sh h1 h2) m 0 xs (by simpa using hsz) hxl (fun i hi=>by simpa using hel i hi)
     simpa[qm1] using this
   ·
    rename_i fs
    obtain⟨fields,ht,rfl⟩:=q76 hE hd
    cases hm:(fields.toList.map fun f=>(f.offset,f.type,P.cellsOf f.type)).mapM fun f=>E.shape n f.2.1 with
    | none=>rw[hm] at hsh;cases hsh
    | some shs=>
     rw[hm] at hsh
     cases hsh
     obtain⟨xs,m0,hf,hx,hcl,hxl,hel⟩:=DataW.trod_struct ht h
     cases hf
     cases hx
     simp only[Bool.and_eq_true] at hl
     have hsz:qxO (fields.toList.map fun f=>(f.offset,f.type,P.cellsOf f.type))=cs.length:=by
      rw[hcl]
      have h1:=Nat.eq_of_beq_eq_true hl.2
      obtain⟨_,i,dd,h2,_,_,h4,_⟩:=q0x hE (t:=t) (by rw[hd];rfl)
      rw[h1,h4]
      unfold Program.cellsOf
      rw[h2];rfl
     have:=qqw (cs:=cs) (fun t cs d ps sh h1 h2=>ih n t cs d ps sh h1 h2) _ 0 xs shs hl.1 (by simpa using hsz) hm (by simpa using hxl) (fun i f hf=>by
      rw[List.getElem?_map] at hf
      cases hfi:fields.toList[i]? with
      | none=>rw[hfi] at hf;cases hf
      | some g=>
       rw[hfi] at hf
       cases hf
       exact hel i g (by simpa using hfi))
     simpa[qm1] using this
end
end Go.Eng

namespace Go.Eng
open Go.RowKit
inductive UFits:List Sh→List U→Prop
 | nil:UFits [] []
 | cons {s:Sh} {u:U} {sh:List Sh} {us:List U} (h:UFit s u) (t:UFits sh us):UFits (s::sh) (u::us)
theorem CR.fits{W:World}{M:Nat→Prop}{a:List Sh}{b:List U}{c:List Value}(h:CR W M a b c):UFits a b:=by
 induction h with
 | nil=>exact .nil
 | cons h f t ih=>exact .cons f ih
def q7V:List Sh→List U→List AV
 | .int k::sh,u::us=>.int k u.toI::q7V sh us
 | .bool::sh,u::us=>.bool u.toB::q7V sh us
 | .str::sh,u::us=>.str u.toS::q7V sh us
 | .sl row::sh,u::us=>.imm row u.toR::q7V sh us
 | _,_=>[]
theorem qy3{X:Ctx}{sh:List Sh}{us:List U}{vs:List Value}(h:CR X.w X.M sh us vs):RepL X (q7V sh us) vs:=by
 induction h with
 | nil=>exact .nil
 | cons h f t ih=>
  rename_i s u v sh us vs
  cases s with
  | int k=>cases h;exact .cons (.int _ _) ih
  | bool=>cases h;exact .cons (.bool _) ih
  | str=>cases h;exact .cons (.str _) ih
  | sl row=>exact .cons (.imm _ _ _ (qjq h)) ih
def qtX(agg:Bool)(sh:List Sh)(us:List U):AV:=match agg with
 | true=>.agg (q7V sh us)
 | false=>(q7V sh us).headD .undef
section
variable {H:Type} {enc:TypeId×Value→H} {P:Program} {W:World} {base:Nat} {sp:Nat→Bool} {held:Bool} {E:Env}
theorem qvH(hE:E.tok P)(hlay:E.tt.all (fun x=>qw6 x.2)=true){X:Ctx}(hw:X.w=W)(hM:X.M=fun b=>b<W.heap.size){r:Reach}{b0:Nat}{n:Nat}{t:TypeId}{v:Value}{d:DataW H}{ps:List MemPlace}{sh:List Sh}
  (hsh:E.shape n t=some sh) (hv:Value.okWide P W r b0 t v) (hd:DataW.Trod enc P W base sp held t v d ps):UFits sh (qm1 d)∧Rep X (qtX (E.ty t).d.isAgg sh (qm1 d)) v:=by
 obtain⟨fuel,hf⟩:=hd
 have hc:=qwT hE hlay fuel n t _ d ps sh hsh hf
 refine⟨hc.fits,?_⟩
 have hr:RepL X (q7V sh (qm1 d)) v.cells.toList:=qy3 (by rw[hw,hM];exact hc)
 have hone:∀(_:(E.ty t).d.isAgg=false),v.cells=#[v]→Rep X (qtX (E.ty t).d.isAgg sh (qm1 d)) v:=by
  intro ha hcell
  rw[ha]
  rw[hcell] at hr
  simp only[qtX]
  generalize q7V sh (qm1 d)=l at hr
  cases hr with
  | cons h1 h2=>simpa using h1
 unfold Value.okWide at hv
 cases n with
 | zero=>simp[Env.shape] at hsh
 | succ n=>
  simp only[Env.shape] at hsh
  cases hd:(E.ty t).d<;>rw[hd] at hsh hone<;>simp only at hsh<;>try (cases hsh)
  ·rw[qoF hE hd] at hv
   refine hone rfl ?_
   cases v<;>simp[Cell.okWide,qoF hE hd,Cell.ok] at hv<;>rfl
  ·rw[qok hE hd] at hv
   refine hone rfl ?_
   cases v<;>simp[Cell.okWide,qok hE hd,Cell.ok] at hv<;>rfl
  ·rw[qgL hE hd] at hv
   refine hone rfl ?_
   cases v<;>simp[Cell.okWide,qgL hE hd,Cell.ok] at hv<;>rfl
  ·rw[(q1Q hE hd).1] at hv
   refine hone rfl ?_
   cases v<;>simp[Cell.okWide,(q1Q hE hd).1,Cell.ok] at hv<;>rfl
  ·rw[(qaB hE hd).1] at hv
   obtain⟨cs,rfl,_,_⟩:=hv
   simp only[TD.isAgg,qtX]
   exact .agg _ _ (by simpa[Value.cells] using hr)
  ·obtain⟨fields,ht,_⟩:=q76 hE hd
   rw[ht] at hv
   obtain⟨cs,rfl,_,_⟩:=hv
   simp only[TD.isAgg,qtX]
   exact .agg _ _ (by simpa[Value.cells] using hr)
end
def qxc(W:World):Ctx:={ σ:=fun _=>none,h:=[],w:=W,M:=fun b=>b<W.heap.size }
def qxk(W:World):Base:={ w0:=W,imps:=[],M0:=fun b=>b<W.heap.size,fs:=[] }
theorem qEw(W:World):HSim (qxk W) (qxc W):=by
 have hno:∀b n,¬(qxc W).own b n:=by
  intro b n ⟨h,_⟩;cases h
 refine⟨fun b k h=>?_,fun b b' n h=>absurd h (hno b n),fun b n h=>absurd h (hno b n),fun n h=>h,fun n h=>h,fun n h=>.inl h,rfl,rfl,rfl,Nat.le_refl _,fun _ _ _=>rfl,fun b h=>?_,fun b h=>?_,fun b n h=>absurd h (hno b n),fun p hp=>by cases hp⟩
 ·have:([]:List Blk)[b]?=some k:=h
  simp at this
 ·exact absurd h (by simp[qxk])
 ·exact absurd h (by simp[qxk])
theorem qDC(W:World):Entry (qxk W) (qxc W):=⟨rfl,rfl,fun _ h=>h⟩
theorem qyR{P:Program}{gl:List (Nat×AV)}{f:FuncId}{G:q0A}(hG:zb P gl f G){W:World}(hgl:qbK gl (qxc W)){args:List AV}{vargs:List Value}(ha:RepL (qxc W) args vargs)
  (h:(G args []).run=some (.bool true,[])):Calls P f vargs.toArray W fun e W'=>e=.returned (.bool true)∧Below W.heap.size W W':=by
 refine(hG.2 (qxk W) (qxc W) args vargs _ (qEw W) (qDC W) hgl ha h).mono fun e W' ⟨v,X',e1,e2,e3,e4,e5,_⟩=>?_
 subst e2
 refine⟨?_,e5.os,e5.tape,e5.output,e5.size,fun k hk=>e5.frame k hk (by simp[qxk])⟩
 rw[e1]
 cases e3;rfl
theorem qxy{i:FIn}{outs:List FOut}{T:List PV→TR}{args:List AV}{ps:List PV}(ho:outs=[{ res:=.bool,h:=[] }])(hi:i.take args []=some ps)(hT:(T ps).run=some (0,[.b true])) :
  (q8 i outs T args []).run=some (.bool true,[]):=by
 subst ho
 unfold q8
 rw[hi]
 simp only[Tree.run,okR,hT,Option.isSome_some]
 simp only[qDe,FOut.kinds,AP.kinds,BP.kindsL,List.append_nil,qmm,gB,pR,hT,List.getD_cons_zero,PV.toB,FOut.make,AP.make,BP.makeL,Tree.run]
theorem qyA{P:Program}{W:World}{E:Env}(hE:E.tok P)(hlay:E.tt.all (fun x=>qw6 x.2)=true){name:String}{g n:Nat}{t:TypeId}{d:DataW Unit}{sh:List Sh}
  (hg:P.globalNamed name=some g) (hty:(P.globals[g]?).map (·.type)=some t) (hsh:E.shape n t=some sh) {ds:List (String×DataW Unit)} (h:laidMet P ds W) (hm:(name,d)∈ds) :
  qBi (qxc W) (g,.eptr sh [qm1 d] 0 0):=by
 obtain⟨ps,hl,_⟩:=h
 have key:∀(ds:List (String×DataW Unit)) (ps:List MemPlace),DataW.LaidVars P W ds ps→(name,d)∈ds→∃cs fuel p,W.var? P name=some cs∧DataW.trod (fun _=>()) P W 0 (fun _=>true) false fuel t cs.toList=some (d,p):=by
  intro ds
  induction ds with
  | nil=>intro ps _ h;cases h
  | cons x ds ih=>
   intro ps hl hm
   obtain⟨nm,dd⟩:=x
   obtain⟨g',t',cs,fuel,p,q,h1,h2,h3,h4,h5,_⟩:=hl
   rcases List.mem_cons.1 hm with he|hm
   ·cases he
    obtain rfl:=Option.some.inj (hg.symm.trans h1)
    obtain rfl:=Option.some.inj (hty.symm.trans h2)
    exact⟨cs,fuel,p,h3,h4⟩
   ·exact ih q h5 hm
 obtain⟨cs,fuel,p,h3,h4⟩:=key ds ps hl hm
 have hc:=qwT hE hlay fuel n t _ d p sh hsh h4
 have hheap:∃T fr,W.heap[g]?=some (.cells cs T fr):=by
  unfold World.var? at h3
  rw[hg] at h3
  simp only[Option.bind_some] at h3
  split at h3
  ·rename_i cs' T fr he
   cases h3
   exact⟨T,fr,he⟩
  ·cases h3
 suffices hs:Rows (qxc W).w (qxc W).M sh [qm1 d] ⟨g,0,none⟩ by
  refine⟨?_,?_,?_⟩
  ·have:=Rep.eptr (X:=qxc W) sh [qm1 d] 0 0 ⟨g,0,none⟩ rfl (Int.le_refl _) (by simp) hs
   simpa using this
  ·obtain⟨T,fr,he⟩:=hheap
   exact(Array.getElem?_eq_some_iff.1 he).1
  ·have:=World.var?_cell hg h3 sh.length
   show W.cell? ⟨g,sh.length*1,none⟩=none
   rw[Nat.mul_one,this,Array.getElem?_eq_none]
   rw[←Array.length_toList,hc.len.2]
   exact Nat.le_refl _
 intro r j hj hr
 have hr0:r=0:=by simpa using hr
 subst hr0
 obtain⟨u,v,e1,e2,e3,_⟩:=hc.get j sh[j] (List.getElem?_eq_getElem hj)
 have hcell:W.cell? ⟨g,j,none⟩=some v:=by
  have:=World.var?_cell hg h3 j
  rw[this];simpa using e2
 refine⟨World.block_lt_of_cell? W ⟨g,j,none⟩ hcell,v,?_,?_⟩
 ·rw[Nat.zero_mul,Nat.add_zero,Nat.zero_add];exact hcell
 have:wX [qm1 d] (0:Nat) j=u:=by simp[wX,List.getD_eq_getElem?_getD,e1]
 rw[this];exact e3
theorem UFits.int{k:IntKind}{sh:List Sh}{us:List U}(h:UFits (.int k::sh) us):∃n us',us=.i n::us'∧k.min≤n∧n≤k.max∧UFits sh us':=by
 cases h with
 | cons h t=>cases h with
  | int k n h0 h1=>exact⟨n,_,rfl,h0,h1,t⟩
theorem UFits.bool{sh:List Sh}{us:List U}(h:UFits (.bool::sh) us):∃b us',us=.b b::us'∧UFits sh us':=by
 cases h with
 | cons h t=>cases h with
  | bool b=>exact⟨b,_,rfl,t⟩
theorem UFits.str{sh:List Sh}{us:List U}(h:UFits (.str::sh) us):∃s us',us=.s s::us'∧s.length≤maxLen∧UFits sh us':=by
 cases h with
 | cons h t=>cases h with
  | str s h0=>exact⟨s,_,rfl,h0,t⟩
theorem UFits.sl{row sh:List Sh}{us:List U}(h:UFits (.sl row::sh) us):∃l us',us=.l l::us'∧UFit (.sl row) (.l l)∧UFits sh us':=by
 cases h with
 | cons h t=>
  rename_i u us
  cases u with
  | l x=>exact⟨x,_,rfl,h,t⟩
  | _=>cases h
theorem UFits.none{us:List U}(h:UFits [] us):us=[]:=by cases h;rfl
end Go.Eng

namespace Go.Eng
theorem qjn{α:Type}(b:Bool)(t e:Tree α):(Tree.br b t e).run=if b=true then t.run else e.run:=by cases b<;>rfl
theorem q8e{α:Type}(a:α):(Tree.leaf a).run=some a:=rfl
theorem qBg{α:Type}:(Tree.fail:Tree α).run=none:=rfl
theorem qun{R:TR}{x:Nat×List PV}(h:R.run=some x):okR R=true:=by simp[okR,h]
theorem qA8{R:TR}{j:Nat}{ps:List PV}(h:R.run=some (j,ps))(i:Nat):pR R i=ps.getD i (.i 0):=by simp[pR,h]
theorem qN{x y:Int}(h:-9223372036854775808≤x+y∧x+y≤9223372036854775807):qh .i64 x y=x+y:=by
 unfold qh IntKind.wrap
 simp[IntKind.signed,IntKind.bits];omega
theorem wO{x y:Int}(h:-9223372036854775808≤x-y∧x-y≤9223372036854775807):qv .i64 x y=x-y:=by
 unfold qv IntKind.wrap
 simp[IntKind.signed,IntKind.bits];omega
theorem q4G{x y:Int}(h:-9223372036854775808≤x*y∧x*y≤9223372036854775807):u7 .i64 x y=x*y:=by
 unfold u7 IntKind.wrap
 simp[IntKind.signed,IntKind.bits];omega
theorem qvI(x y:Int):(ieq x y=true)=(x=y):=by simp[ieq]
theorem qAA(x y:Int):(ine x y=true)=(x≠y):=by simp[ine]
theorem qsc(x y:Int):(ilt x y=true)=(x<y):=by simp[ilt]
theorem qeT(x y:Int):(ile x y=true)=(x≤y):=by simp[ile]
theorem qzH(x y:Bool):(Go.Eng.beq x y=true)=(x=y):=by simp[Go.Eng.beq]
theorem qDs{a b A B:Int}(h1:-A≤a)(h2:a≤A)(h3:-B≤b)(h4:b≤B):-(A*B)≤a*b∧a*b≤A*B:=by
 have e1:=Int.mul_nonneg (show 0≤A-a by omega) (show 0≤B-b by omega)
 have e2:=Int.mul_nonneg (show 0≤A+a by omega) (show 0≤B+b by omega)
 have e3:=Int.mul_nonneg (show 0≤A-a by omega) (show 0≤B+b by omega)
 have e4:=Int.mul_nonneg (show 0≤A+a by omega) (show 0≤B-b by omega)
 simp only[Int.sub_mul,Int.mul_sub,Int.add_mul,Int.mul_add] at e1 e2 e3 e4
 omega
theorem qvR{x:Int}(h:-9223372036854775807≤x∧x≤9223372036854775807):qv .i64 0 x=-x:=by
 rw[wO (by omega)];omega
theorem qja{x:Int}(h:-9223372036854775808≤x∧x≤9223372036854775807):wl .i64 x=x:=by
 unfold wl IntKind.wrap
 simp[IntKind.signed,IntKind.bits];omega
theorem qBk(b:Bool):((!b)=true)=¬(b=true):=by cases b<;>simp
theorem qBw(x y:Bool):(qAJ x y=true)=(x=true∧y=true):=by simp[qAJ]
theorem qE0(i n:Int):(inb i n=true)=(0≤i∧i<n):=by simp[inb]
theorem qD3(i n:Int):(q4D i n=true)=(0≤i∧i≤n):=by simp[q4D]
theorem STD:(∀(α:Type) (b:Bool) (t e:Tree α),(Tree.br b t e).run=if b=true then t.run else e.run)∧(∀(α:Type) (a:α),(Tree.leaf a).run=some a)∧(∀(α:Type),(Tree.fail:Tree α).run=none) ∧
  (∀R:TR,okR R=R.run.isSome)∧(∀(α:Type) (a:α),(some a).isSome=true)∧(∀(R:TR) (i:Nat),gI R i=(pR R i).toI)∧(∀(R:TR) (i:Nat),gB R i=(pR R i).toB)∧(∀(R:TR) (i:Nat),gS R i=(pR R i).toS)∧(∀(R:TR) (i:Nat),gR R i=(pR R i).toR) ∧
  (∀(R:TR) (i:Nat),pR R i=R.run.elim (.i 0) fun r=>r.2.getD i (.i 0))∧(∀(α β:Type) (b:β) (f:α→β) (a:α),(some a).elim b f=f a) ∧
  (∀(a:PV) (l:List PV) (d:PV),(a::l).getD 0 d=a)∧(∀(a:PV) (l:List PV) (d:PV) (n:Nat),(a::l).getD (n+1) d=l.getD n d) ∧
  (∀n,(PV.i n).toI=n)∧(∀b,(PV.b b).toB=b)∧(∀s,(PV.s s).toS=s)∧(∀l,(PV.r l).toR=l) ∧
  (∀(α:Type) (h:Decidable True) (a b:α),@ite α True h a b=a)∧(∀(α:Type) (h:Decidable False) (a b:α),@ite α False h a b=b)∧((false=true)=False)∧((true=false)=False)∧((true=true)=True) ∧
  (∀x y,(ieq x y=true)=(x=y))∧(∀x y,(ine x y=true)=(x≠y))∧(∀x y,(ilt x y=true)=(x<y))∧(∀x y,(ile x y=true)=(x≤y))∧(∀x y,(Go.Eng.beq x y=true)=(x=y)) ∧
  (∀x y,(qAJ x y=true)=(x=true∧y=true))∧(∀b:Bool,((!b)=true)=¬(b=true))∧(∀i n,(inb i n=true)=(0≤i∧i<n))∧(∀i n,(q4D i n=true)=(0≤i∧i≤n)) ∧
  (∀(p:Prop) (_:Decidable p),(decide p=true)=p)∧(∀(α:Type) (a b:α),(a≠b)=¬(a=b))∧(¬True)=False∧(¬False)=True:=
 ⟨fun _=>qjn,fun _=>q8e,fun _=>qBg,fun _=>rfl,fun _ _=>rfl,fun _ _=>rfl,fun _ _=>rfl,fun _ _=>rfl,fun _ _=>rfl,fun R i=>by unfold pR;cases R.run<;>rfl,fun _ _ _ _ _=>rfl,
  fun _ _ _=>rfl,fun _ _ _ _=>rfl,fun _=>rfl,fun _=>rfl,fun _=>rfl,fun _=>rfl,fun _ _ _ _=>by simp,fun _ _ _ _=>by simp,by simp,by simp,by simp,qvI,qAA,qsc,qeT,qzH,
  qBw,qBk,qE0,qD3,fun _ _=>by simp,fun _ _ _=>rfl,by simp,by simp⟩
theorem qw{R:TR}{j:Nat}{ps:List PV}(h:R.run=some (j,ps))(i:Nat):(jIs R i=true)=(j=i):=by simp[jIs,jR,h]
theorem run_bind{α β:Type}(t:Tree α)(f:α→Tree β):(t.bind f).run=t.run.bind fun a=>(f a).run:=by
 induction t with
 | leaf a=>rfl
 | br b t e iht ihe=>cases b<;>simp[Tree.bind,Tree.run,iht,ihe]
 | fail=>rfl
theorem qgh{S:List PV→TR}{n:Nat}{ps qs:List PV}(h:(S ps).run=some (0,qs)):(qiE S (n+1) ps).run=(qiE S n qs).run:=by
 simp[qiE,run_bind,h]
theorem q6X{S:List PV→TR}{n j:Nat}{ps qs:List PV}(h:(S ps).run=some (j+1,qs)):(qiE S (n+1) ps).run=some (j,qs):=by
 simp[qiE,run_bind,h,Tree.run]
def q0i{α:Type}(f:Nat→Option α):Nat→Nat→Option α
 | _,0=>none
 | i,k+1=>match f i with
  | some a=>some a
  | none=>q0i f (i+1) k
theorem qr1{S:List PV→TR}(st:Nat→List PV)(f:Nat→Option (Nat×List PV))(fin:Nat×List PV)(n:Nat)
  (h1:∀i,i<n→f i=none→(S (st i)).run=some (0,st (i+1))) (h2:∀i r,i<n→f i=some r→(S (st i)).run=some (r.1+1,r.2))
  (h3:(S (st n)).run=some (fin.1+1,fin.2)):∀(k i m:Nat),i+k=n→k<m→(qiE S m (st i)).run=some ((q0i f i k).getD fin)
 | 0,i,m,hi,hm=>by
  obtain⟨m,rfl⟩:∃m',m=m'+1:=⟨m-1,by omega⟩
  have:i=n:=by omega
  subst this
  rw[q6X h3];rfl
 | k+1,i,m,hi,hm=>by
  obtain⟨m,rfl⟩:∃m',m=m'+1:=⟨m-1,by omega⟩
  cases hf:f i with
  | none=>
   rw[qgh (h1 i (by omega) hf),qr1 st f fin n h1 h2 h3 k (i+1) m (by omega) (by omega)]
   simp[q0i,hf]
  | some r=>
   rw[q6X (h2 i r (by omega) hf)]
   simp[q0i,hf]
theorem q4V{S:List PV→TR}(st:Nat→List PV)(f:Nat→Option (Nat×List PV))(fin:Nat×List PV)(n:Nat)(hn:n<9223372036854775808)
  (h1:∀i,i<n→f i=none→(S (st i)).run=some (0,st (i+1))) (h2:∀i r,i<n→f i=some r→(S (st i)).run=some (r.1+1,r.2))
  (h3:(S (st n)).run=some (fin.1+1,fin.2)):(qg S (st 0)).run=some ((q0i f 0 n).getD fin):=
 qr1 st f fin n h1 h2 h3 n 0 qfU (by omega) (Nat.lt_trans hn (by unfold qfU;decide))
theorem jy{S:List PV→TR}(st:Nat→List PV)(fin:Nat×List PV)(n:Nat)(hn:n<9223372036854775808)
  (h1:∀i,i<n→(S (st i)).run=some (0,st (i+1))) (h3:(S (st n)).run=some (fin.1+1,fin.2)):(qg S (st 0)).run=some fin:=by
 have h:=q4V st (fun _=>none) fin n hn (fun i hi _=>h1 i hi) (fun i r _ h=>by cases h) h3
 have e:∀k i,q0i (fun _=>(none:Option (Nat×List PV))) i k=none:=by
  intro k;induction k with
  | zero=>intro i;rfl
  | succ k ih=>intro i;simp[q0i,ih]
 rw[e] at h;exact h
theorem qbH{α:Type}{f:Nat→Option α}:∀{k i:Nat},q0i f i k=none→∀j,i≤j→j<i+k→f j=none
 | 0,i,_,j,h1,h2=>by omega
 | k+1,i,h,j,h1,h2=>by
  simp only[q0i] at h
  cases hf:f i with
  | some a=>rw[hf] at h;cases h
  | none=>
   rw[hf] at h
   rcases Nat.eq_or_lt_of_le h1 with rfl|h1
   ·exact hf
   ·exact qbH h j h1 (by omega)
theorem qqz{α:Type}{f g:Nat→Option α}:∀{k i:Nat},(∀j,i≤j→j<i+k→f j=g j)→q0i f i k=q0i g i k
 | 0,i,_=>rfl
 | k+1,i,h=>by
  simp only[q0i]
  rw[h i (by omega) (by omega),qqz (fun j h1 h2=>h j (by omega) (by omega))]
theorem qdH{α β:Type}(g:α→β){f:Nat→Option α}:∀{k i:Nat},q0i (fun j=>(f j).map g) i k=(q0i f i k).map g
 | 0,i=>rfl
 | k+1,i=>by
  simp only[q0i]
  cases f i with
  | some a=>rfl
  | none=>exact qdH g
theorem q1m{i n:Nat}(h:i<n)(hn:n<9223372036854775808):qh .i64 (i:Int) 1=((i+1:Nat):Int):=by
 rw[qN (by omega)];omega
theorem qzn{α:Type}(n:Nat):∀i,q0i (fun _=>(none:Option α)) i n=none:=by
 induction n with
 | zero=>intro i;rfl
 | succ n ih=>intro i;simp[q0i,ih]
def pick(p:Nat→Bool):Nat→R
 | 0=>[]
 | n+1=>if p n then qc3 (pick p n) [[.i (n:Int)]] else pick p n
def q7j(f:Nat→Int)(i:Nat):Option Int:=if f i=0 then none else some (f i)
theorem qnA{f:Nat→Int}{n:Nat}(h:q0i (q7j f) 0 n=none)(i:Nat)(hi:i<n):f i=0:=by
 have:=qbH h i (by omega) (by omega)
 unfold q7j at this;split at this
 ·assumption
 ·cases this
theorem qiL{f:Nat→Int}:∀{k i:Nat} {e:Int},q0i (q7j f) i k=some e→e≠0
 | 0,i,e,h=>by cases h
 | k+1,i,e,h=>by
  simp only[q0i] at h
  unfold q7j at h
  by_cases h0:f i=0
  ·rw[if_pos h0] at h;exact qiL h
  ·rw[if_neg h0] at h;simp at h;omega
def qat(e:Nat→Int)(n:Nat):Int:=(q0i (q7j e) 0 n).getD 0
theorem qvX{e:Nat→Int}{n:Nat}(h:qat e n=0)(i:Nat)(hi:i<n):e i=0:=by
 unfold qat at h
 cases hs:q0i (q7j e) 0 n with
 | none=>exact qnA hs i hi
 | some x=>rw[hs] at h;exact absurd h (qiL hs)
theorem qz6{e:Nat→Int}{n:Nat}(h:∀i,i<n→e i=0):qat e n=0:=by
 unfold qat
 rw[qqz (g:=fun _=>none) (fun j _ hj=>by unfold q7j;rw[if_pos (h j (by omega))]),qzn];rfl
theorem qrQ{S:List PV→TR}(st:Nat→List PV)(e:Nat→Int)(caps fin:List PV)(n:Nat)(hn:n<9223372036854775808)
  (h:∀i,i<n→(S (st i)).run=if e i=0 then some (0,st (i+1)) else some (2,.i (e i)::caps)) (h3:(S (st n)).run=some (1,fin)) :
  (qg S (st 0)).run=some (if qat e n=0 then (0,fin) else (1,.i (qat e n)::caps)):=by
 have key:=q4V st (fun i=>(q7j e i).map fun x=>(1,PV.i x::caps)) (0,fin) n hn (fun i hi hf=>by
  rw[h i hi];unfold q7j at hf;split at hf
  ·rename_i h0;rw[if_pos h0]
  ·simp at hf) (fun i r hi hf=>by
  rw[h i hi];unfold q7j at hf;split at hf
  ·simp at hf
  ·rename_i h0;simp at hf;rw[if_neg h0,←hf]) h3
 rw[key,qdH]
 unfold qat
 cases hs:q0i (q7j e) 0 n with
 | none=>simp
 | some x=>simp[qiL hs]
theorem qBS{l:R}{i:Nat}(h:i<l.length):(i:Int)<qj l:=by unfold qj;omega
theorem qCR(l:R):¬((l.length:Int)<qj l):=by unfold qj;omega
theorem q4v(i:Nat):(0:Int)≤(i:Int):=by omega
end Go.Eng

namespace Go.Eng
def dch(d:Nat):UInt8:=UInt8.ofNat (48+d)
def dv(c:UInt8):Nat:=c.toNat-48
def q4B(s:List UInt8):Prop:=∀c,c∈s→48≤c.toNat∧c.toNat≤57
def val(s:List UInt8):Nat:=s.foldl (fun a c=>10*a+dv c) 0
def tNf:Nat→Nat→List UInt8
 | 0,_=>[]
 | f+1,n=>if n<10 then [dch n] else tNf f (n/10)++[dch (n%10)]
def tN(n:Nat):List UInt8:=tNf (n+1) n
def tI(n:Int):List UInt8:=if n<0 then 45::tN n.natAbs else tN n.natAbs
theorem q2b{d:Nat}(h:d<10):(dch d).toNat=48+d:=by
 unfold dch;rw[UInt8.toNat_ofNat'];omega
theorem qlu{d:Nat}(h:d<10):dv (dch d)=d:=by unfold dv;rw[q2b h];omega
theorem qCb{c:UInt8}(h1:48≤c.toNat)(h2:c.toNat≤57):dch (dv c)=c:=by
 apply UInt8.toNat_inj.1
 rw[q2b (by unfold dv;omega)];unfold dv;omega
theorem qjw(s:List UInt8)(c:UInt8):val (s++[c])=10*val s+dv c:=by simp[val,List.foldl_append]
theorem qoR:∀(t:List UInt8) (a:Nat),t.foldl (fun a c=>10*a+dv c) a=a*10^t.length+val t
 | [],a=>by simp[val]
 | c::t,a=>by
  have h1:=qoR t (10*a+dv c)
  have h2:=qoR t (10*0+dv c)
  have h3:val (c::t)=t.foldl (fun a c=>10*a+dv c) (10*0+dv c):=rfl
  rw[h3,h2,List.foldl_cons,h1,List.length_cons,Nat.pow_succ]
  grind
theorem qsz(s t:List UInt8):val (s++t)=val s*10^t.length+val t:=by
 have h:val (s++t)=t.foldl (fun a c=>10*a+dv c) (val s):=by simp[val,List.foldl_append]
 rw[h,qoR]
theorem q5v(c:UInt8)(t:List UInt8):val (c::t)=dv c*10^t.length+val t:=by
 have:=qsz [c] t
 simpa[val] using this
theorem qdz:val []=0:=rfl
theorem qw1(c:UInt8):val [c]=dv c:=by simp[val]
theorem qjS:q4B []:=fun c h=>by cases h
theorem q0b{c:UInt8}{s:List UInt8}:q4B (c::s)↔(48≤c.toNat∧c.toNat≤57)∧q4B s:=by
 unfold q4B;simp
theorem q6v{s t:List UInt8}:q4B (s++t)↔q4B s∧q4B t:=by
 unfold q4B;simp only[List.mem_append]
 exact⟨fun h=>⟨fun c hc=>h c (.inl hc),fun c hc=>h c (.inr hc)⟩,fun h c hc=>hc.elim (h.1 c) (h.2 c)⟩
theorem qy4{c:UInt8}(h:48≤c.toNat∧c.toNat≤57):dv c<10:=by unfold dv;omega
theorem q5K:∀{s:List UInt8},q4B s→val s<10^s.length
 | [],_=>by simp[val]
 | c::s,h=>by
  obtain⟨h1,h2⟩:=q0b.1 h
  have ih:=q5K h2
  have hd:=qy4 h1
  rw[q5v,List.length_cons,Nat.pow_succ]
  have:dv c*10^s.length≤9*10^s.length:=Nat.mul_le_mul_right _ (by omega)
  omega
theorem qsE{d:Nat}(h:d<10):q4B [dch d]:=by
 intro c hc
 simp at hc;subst hc
 rw[q2b h];omega
theorem qC9:∀(f g n:Nat),n<f→n<g→tNf f n=tNf g n
 | 0,_,n,h,_=>by omega
 | _,0,n,_,h=>by omega
 | f+1,g+1,n,h1,h2=>by
  unfold tNf
  by_cases h:n<10
  ·rw[if_pos h,if_pos h]
  ·rw[if_neg h,if_neg h,qC9 f g (n/10) (by omega) (by omega)]
theorem qu1{n:Nat}(h:n<10):tN n=[dch n]:=by unfold tN tNf;rw[if_pos h]
theorem qv3{n:Nat}(h:10≤n):tN n=tN (n/10)++[dch (n%10)]:=by
 have:tN n=tNf n (n/10)++[dch (n%10)]:=by
  show tNf (n+1) n=_
  rw[tNf,if_neg (by omega)]
 rw[this,qC9 n (n/10+1) (n/10) (by omega) (by omega)];rfl
theorem qsx(n:Nat):q4B (tN n)∧tN n≠[]∧val (tN n)=n:=by
 induction n using Nat.strongRecOn with
 | _ n ih=>
  by_cases h:n<10
  ·rw[qu1 h];exact⟨qsE h,by simp,by rw[qw1,qlu h]⟩
  ·rw[qv3 (by omega)]
   obtain⟨h1,h2,h3⟩:=ih (n/10) (by omega)
   refine⟨q6v.2 ⟨h1,qsE (by omega)⟩,by simp,?_⟩
   rw[qjw,h3,qlu (by omega)];omega
theorem zN(n:Nat):q4B (tN n):=(qsx n).1
theorem qnK(n:Nat):tN n≠[]:=(qsx n).2.1
theorem kX(n:Nat):val (tN n)=n:=(qsx n).2.2
theorem qhi(n:Nat):0<(tN n).length:=List.length_pos_iff.2 (qnK n)
theorem q5A:∀(k n:Nat),n<10^(k+1)→(tN n).length≤k+1
 | 0,n,h=>by rw[qu1 (by simpa using h)];simp
 | k+1,n,h=>by
  by_cases h10:n<10
  ·rw[qu1 h10];simp
  ·rw[qv3 (by omega),List.length_append]
   have:=q5A k (n/10) (by rw[Nat.pow_succ] at h;omega)
   simp;omega
theorem qtU:∀(k n:Nat),10^k≤n→k<(tN n).length
 | 0,n,_=>qhi n
 | k+1,n,h=>by
  have hp:0<10^k:=Nat.pow_pos (by omega)
  rw[Nat.pow_succ] at h
  rw[qv3 (by omega),List.length_append]
  have:=qtU k (n/10) (by omega)
  simp;omega
theorem q4K{k n:Nat}(h:(tN n).length≤k):n<10^k:=by
 have:=q5K (zN n)
 rw[kX] at this
 exact Nat.lt_of_lt_of_le this (Nat.pow_le_pow_right (by omega) h)
def qET(s:List UInt8):Prop:=s.length=1∨s.getD 0 0≠48
theorem qwS{s:List UInt8}(hd:q4B s)(hn:s≠[])(h:s.getD 0 0≠48):10^(s.length-1)≤val s:=by
 cases s with
 | nil=>exact absurd rfl hn
 | cons c s=>
  obtain⟨h1,h2⟩:=q0b.1 hd
  simp at h
  have hc:1≤dv c:=by
   unfold dv
   have:c.toNat≠48:=fun e=>h (UInt8.toNat_inj.1 (by simpa using e))
   omega
  rw[q5v,List.length_cons,Nat.add_sub_cancel]
  have:1*10^s.length≤dv c*10^s.length:=Nat.mul_le_mul_right _ hc
  omega
theorem qC3:∀(n:Nat) {s:List UInt8},s.length=n+1→q4B s→qET s→tN (val s)=s
 | 0,s,hl,hd,_=>by
  match s,hl with
  | [c],_=>
   have h1:=(q0b.1 hd).1
   rw[qw1,qu1 (qy4 h1),qCb h1.1 h1.2]
 | n+1,s,hl,hd,hz=>by
  obtain⟨i,c,rfl⟩:∃i c,s=i++[c]:=⟨s.dropLast,s.getLast (by intro h;simp[h] at hl),(List.dropLast_concat_getLast _).symm⟩
  have hil:i.length=n+1:=by simpa using hl
  obtain⟨h1,h2⟩:=q6v.1 hd
  have hc:=(q0b.1 h2).1
  have hi:i≠[]:=by intro h;simp[h] at hil
  have hz0:i.getD 0 0≠48:=by
   rcases hz with hz|hz
   ·exact absurd (by simpa using hz) hi
   ·cases i with
    | nil=>exact absurd rfl hi
    | cons a i=>simpa using hz
  have hv:1≤val i:=Nat.le_trans (Nat.one_le_pow _ _ (by omega)) (qwS h1 hi hz0)
  have hd10:=qy4 hc
  rw[qjw,qv3 (n:=10*val i+dv c) (by omega),show (10*val i+dv c)/10=val i by omega,show (10*val i+dv c)%10=dv c by omega,qCb hc.1 hc.2,qC3 n hil h1 (.inr hz0)]
theorem qnZ{s:List UInt8}(hd:q4B s)(hn:s≠[])(hz:qET s):s=tN (val s):=
 (qC3 (s.length-1) (by have:=List.length_pos_iff.2 hn;omega) hd hz).symm
theorem qqo{m n:Nat}(h:tN m=tN n):m=n:=by rw[←kX m,h,kX]
theorem qzR(n:Nat):qET (tN n):=by
 induction n using Nat.strongRecOn with
 | _ n ih=>
  by_cases h:n<10
  ·rw[qu1 h];exact .inl rfl
  ·rw[qv3 (by omega)]
   right
   by_cases h2:n/10<10
   ·rw[qu1 h2]
    intro e
    have:(dch (n/10)).toNat=48:=by
     have e':dch (n/10)=48:=by simpa using e
     rw[e'];rfl
    rw[q2b h2] at this;omega
   ·have h3:(tN (n/10)).length≠1:=by
     have:=qtU 1 (n/10) (by omega);omega
    rcases ih (n/10) (by omega) with h4|h4
    ·exact absurd h4 h3
    ·cases hq:tN (n/10) with
     | nil=>exact absurd hq (qnK _)
     | cons a i=>rw[hq] at h4;simpa using h4
theorem qD0(t:List UInt8):slt [] t=!t.isEmpty:=by cases t<;>rfl
theorem qBx(a b:UInt8)(s t:List UInt8):slt (a::s) (b::t)=(decide (a<b)||(a==b&&slt s t)):=by
 unfold slt
 simp only[Op.bytesLess]
theorem qv2:∀{s t:List UInt8},q4B s→q4B t→s.length=t.length→((slt s t=true)=(val s<val t))
 | [],[],_,_,_=>by simp[qD0,qdz]
 | a::s,b::t,h1,h2,hl=>by
  obtain⟨ha,hs⟩:=q0b.1 h1
  obtain⟨hb,ht⟩:=q0b.1 h2
  have hl':s.length=t.length:=by simpa using hl
  have ih:=qv2 hs ht hl'
  have v1:=q5K hs
  have v2:=q5K ht
  rw[qBx,q5v,q5v,hl']
  rw[hl'] at v1
  have hab:(a<b)=(dv a<dv b):=by
   unfold dv;rw[UInt8.lt_iff_toNat_lt];simp only[eq_iff_iff];omega
  have hab2:(a=b)=(dv a=dv b):=by
   unfold dv;rw[←UInt8.toNat_inj];simp only[eq_iff_iff];omega
  simp only[Bool.or_eq_true,decide_eq_true_eq,Bool.and_eq_true,beq_iff_eq,eq_iff_iff,ih,hab,hab2]
  generalize 10^t.length=p at *
  generalize dv a=x at *
  generalize dv b=y at *
  constructor
  ·rintro (h|⟨rfl,h⟩)
   ·have:=Nat.mul_le_mul_right p (show x+1≤y by omega)
    rw[Nat.add_mul] at this;omega
   ·omega
  ·intro h
   rcases Nat.lt_trichotomy x y with h3|h3|h3
   ·exact .inl h3
   ·subst h3;exact .inr ⟨rfl,by omega⟩
   ·have:=Nat.mul_le_mul_right p (show y+1≤x by omega)
    rw[Nat.add_mul] at this;omega
theorem um{m n:Nat}(h:m≤n):(tN m).length≤(tN n).length:=by
 rcases Nat.lt_or_ge (tN n).length (tN m).length with h1|h1
 ·have h2:=q4K (Nat.le_refl (tN n).length)
  have h3:0<(tN n).length:=qhi n
  have:=q5A ((tN n).length-1) m (by rw[Nat.sub_add_cancel h3];omega)
  omega
 ·exact h1
theorem qw9(m n:Nat):((tN m).length<(tN n).length∨(tN m).length=(tN n).length∧slt (tN m) (tN n)=true)↔m<n:=by
 constructor
 ·rintro (h|⟨h1,h2⟩)
  ·rcases Nat.lt_or_ge m n with h3|h3
   ·exact h3
   ·have:=um h3;omega
  ·rw[qv2 (zN m) (zN n) h1,kX,kX] at h2;exact h2
 ·intro h
  have h1:=um (Nat.le_of_lt h)
  rcases Nat.lt_or_ge (tN m).length (tN n).length with h3|h3
  ·exact .inl h3
  ·have h4:(tN m).length=(tN n).length:=by omega
   exact .inr ⟨h4,by rw[qv2 (zN m) (zN n) h4,kX,kX];exact h⟩
theorem qwQ(s:List UInt8):val (48::s)=val s:=by rw[q5v];simp[dv]
theorem qoo(n:Nat)(s:List UInt8):val (List.replicate n 48++s)=val s:=by
 induction n with
 | zero=>rfl
 | succ n ih=>rw[List.replicate_succ,List.cons_append,qwQ,ih]
theorem qkz(n:Nat):q4B (List.replicate n 48):=by
 intro c hc
 rw[(List.mem_replicate.1 hc).2];decide
def rI(l:List Int):R:=l.map fun v=>[.i v]
theorem qiy(l:List Int):qj (rI l)=l.length:=by simp[qj,rI]
theorem qCV(l:List Int)(i:Int):cI (rI l) i 0=l.getD i.toNat 0:=by
 unfold cI wX rI
 simp only[List.getD_eq_getElem?_getD,List.getElem?_map]
 cases l[i.toNat]?<;>rfl
theorem qyj(x v:U):qus [x] 0 [v]=[v]:=rfl
theorem qtd(l:List Int)(i v:Int):qcA (rI l) i 0 [.i v]=rI (l.set i.toNat v):=by
 unfold qcA rI
 apply List.ext_getElem?
 intro j
 by_cases hj:j=i.toNat
 ·subst hj
  by_cases hl:i.toNat<l.length
  ·simp[hl,List.getD_eq_getElem?_getD,qyj]
  ·rw[List.getElem?_eq_none (by simp;omega),List.getElem?_eq_none (by simp;omega)]
 ·rw[List.getElem?_set_ne (Ne.symm hj),List.getElem?_map,List.getElem?_map,List.getElem?_set_ne (Ne.symm hj)]
theorem qhJ(n v:Int):q3i n [.i v]=rI (List.replicate n.toNat v):=by simp[q3i,rI]
theorem qDh(l:List Int):qgB (rI l)=l.map fun v=>UInt8.ofNat v.toNat:=by
 unfold qgB rI
 rw[List.map_map]
 rfl
theorem qE6(l:List Int)(i:Int)(s:List UInt8):quE (rI l) i s=rI (l.take i.toNat++s.map (fun c=>(c.toNat:Int))++l.drop (i.toNat+s.length)):=by
 unfold quE rI
 simp[List.map_take,List.map_drop]
theorem qkM(s:List UInt8):qgB (rI (s.map fun c=>(c.toNat:Int)))=s:=by
 rw[qDh,List.map_map]
 have:((fun v:Int=>UInt8.ofNat v.toNat)∘fun c:UInt8=>(c.toNat:Int))=id:=by
  funext c;simp
 rw[this,List.map_id]
theorem qhX{s:List UInt8}{i:Nat}(h:i<s.length):sat s (i:Int)=(s[i].toNat:Int):=by
 unfold sat
 simp[List.getD_eq_getElem?_getD,h]
theorem qS(s t:List UInt8):(seq s t=true)=(s=t):=by simp[seq]
theorem qD5{x:Int}(h:48≤x∧x≤255):qv .u8 x 48=x-48:=by
 unfold qv IntKind.wrap
 simp[IntKind.signed,IntKind.bits];omega
theorem qqj{x:Int}(h:0≤x∧x≤255):wl .u8 x=x:=by
 unfold wl IntKind.wrap
 simp[IntKind.signed,IntKind.bits];omega
theorem qmO(a b:Nat):q5N (a:Int) (b:Int)=((a%b:Nat):Int):=by
 unfold q5N;rw[Int.tmod_eq_emod_of_nonneg (by omega)];rfl
theorem qr4{a b:Nat}(h:a<9223372036854775808):jo .i64 (a:Int) (b:Int)=((a/b:Nat):Int):=by
 unfold jo
 rw[Int.tdiv_eq_ediv_of_nonneg (by omega)]
 have:(a:Int)/(b:Int)=((a/b:Nat):Int):=rfl
 have h2:a/b≤a:=Nat.div_le_self a b
 rw[this]
 generalize a/b=q at *
 unfold IntKind.wrap
 simp[IntKind.signed,IntKind.bits];omega
theorem vr{S:List PV→TR}(I:Nat→List PV→Prop)(Q:Nat→List PV→Prop){n:Nat}(hn:n<9223372036854775808)
  (h:∀k ps,k≤n→I k ps→(∃k' qs,k'<k∧(S ps).run=some (0,qs)∧I k' qs)∨∃j qs,(S ps).run=some (j+1,qs)∧Q j qs) {ps:List PV} (h0:I n ps):∃j qs,(qg S ps).run=some (j,qs)∧Q j qs:=by
 have key:∀m k ps,k≤n→k<m→I k ps→∃j qs,(qiE S m ps).run=some (j,qs)∧Q j qs:=by
  intro m
  induction m with
  | zero=>intro k ps _ h;omega
  | succ m ih=>
   intro k ps hk hm hI
   rcases h k ps hk hI with⟨k',qs,h1,h2,h3⟩|⟨j,qs,h1,h2⟩
   ·obtain⟨j,rs,g1,g2⟩:=ih k' qs (by omega) (by omega) h3
    exact⟨j,rs,by rw[qgh h2];exact g1,g2⟩
   ·exact⟨j,qs,q6X h1,h2⟩
 exact key qfU n ps (Nat.le_refl _) (Nat.lt_trans hn (by unfold qfU;decide)) h0
end Go.Eng

namespace Go.Eng
theorem qa8{m:Int}(h:m<0):tI m=45::tN m.natAbs:=by unfold tI;rw[if_pos h]
theorem qhA{m:Int}(h:¬m<0):tI m=tN m.natAbs:=by unfold tI;rw[if_neg h]
theorem kE(n:Nat):tI (n:Int)=tN n:=by rw[qhA (by omega)];rfl
theorem qvP:tN 0=[48]:=rfl
theorem qgj{s:List UInt8}(hd:q4B s)(hn:s≠[]):∃c t,s=c::t∧48≤c.toNat∧c.toNat≤57:=by
 cases s with
 | nil=>exact absurd rfl hn
 | cons c t=>exact⟨c,t,rfl,(q0b.1 hd).1⟩
theorem qtw(m:Int):(tI m).length≤(tN m.natAbs).length+1:=by unfold tI;split<;>simp
theorem qmW(m:Int):0<(tI m).length:=by
 have:=qhi m.natAbs
 unfold tI;split<;>simp<;>omega
theorem qu9{m n:Int}(h:tI m=tI n):m=n:=by
 have key:∀{m n:Int},m<0→¬n<0→tI m≠tI n:=by
  intro m n h1 h2 e
  rw[qa8 h1,qhA h2] at e
  obtain⟨c,t,hc,h3,h4⟩:=qgj (zN n.natAbs) (qnK _)
  rw[hc] at e
  have:=(List.cons.inj e).1
  rw[←this] at h3
  exact absurd h3 (by decide)
 by_cases h1:m<0<;>by_cases h2:n<0
 ·rw[qa8 h1,qa8 h2] at h
  have:=qqo (List.cons.inj h).2
  omega
 ·exact absurd h (key h1 h2)
 ·exact absurd h.symm (key h2 h1)
 ·rw[qhA h1,qhA h2] at h
  have:=qqo h
  omega
theorem qxd(m:Int):(sat (tI m) 0=45)=(m<0):=by
 by_cases h:m<0
 ·rw[qa8 h];simp[sat,h]
 ·rw[qhA h]
  obtain⟨c,t,hc,h3,h4⟩:=qgj (zN m.natAbs) (qnK _)
  rw[hc]
  simp[sat,h];omega
theorem wi(m:Int):(qt [.s (tI m)]).run=some (0,[.s (tN m.natAbs)]):=by
 rw[qjs]
 have hp:=qmW m
 have hne:¬tI m=[]:=fun h=>by rw[h] at hp;simp at hp
 have h1:(0:Int)<qm (tI m):=by unfold qm;omega
 have h2:(1:Int)≤qm (tI m):=by omega
 simp only[STD,qS,hne,h1,h2,qxd,Int.le_refl,show (0:Int)≤qm (tI m) by omega,and_self,show (0:Int)≤1 by omega]
 by_cases h:m<0
 ·rw[if_pos h,qa8 h];simp[qaA,qm]
 ·rw[if_neg h,qhA h]
theorem vt(m:Int):(qB [.s (tI m)]).run=some (0,[.b (decide (m<0))]):=by
 rw[qpX]
 have hp:=qmW m
 have h1:(0:Int)<qm (tI m):=by unfold qm;omega
 have h2:ieq (sat (tI m) 0) 45=decide (m<0):=by
  have:=qxd m
  by_cases h:m<0<;>simp[ieq,h] at this ⊢<;>exact this
 simp only[STD,h1,h2,Int.le_refl,and_self]
theorem uL(n:Nat)(b:Bool)(hl:(tN n).length≤100000000):(qI [.s (tN n),.b b]).run=some (0,[.s (tI (if b then -(n:Int) else n))]):=by
 rw[qnF]
 have h1:qm [45]+qm (tN n)≤140737488355328:=by show (1:Int)+((tN n).length:Int)≤_;omega
 have h0:(tN n=[48])=(n=0):=by
  rw[←qvP];exact propext ⟨fun h=>qqo h,fun h=>by rw[h]⟩
 simp only[STD,qS,h1,h0]
 cases b with
 | false=>simp[kE]
 | true=>
  by_cases hn:n=0
  ·subst hn;simp[tI,qvP]
  ·have:(-(n:Int))<0:=by omega
   simp[hn,qa8 this,qbC]
theorem qbb(m:Int)(hl:(tN m.natAbs).length≤100000000):(zC [.s (tI m)]).run=some (0,[.s (tI (-m))]):=by
 rw[qnD]
 simp only[STD,wi,vt,uL _ _ hl]
 have e:(if ¬m<0 then -(m.natAbs:Int) else (m.natAbs:Int))=-m:=by
  by_cases h:m<0
  ·rw[if_neg (by simp[h])];omega
  ·rw[if_pos (by simp[h])];omega
 rw[e]
theorem q8o{s:List UInt8}{i:Nat}(h:i<s.length):val (s.take (i+1))=10*val (s.take i)+dv s[i]:=by
 rw[List.take_add_one,List.getElem?_eq_getElem h,Option.toList_some,qjw]
theorem qsM{s:List UInt8}(h:q4B s)(i:Nat):q4B (s.take i):=fun c hc=>h c (List.mem_of_mem_take hc)
theorem qAB{s:List UInt8}(h:q4B s)(i:Nat):q4B (s.drop i):=fun c hc=>h c (List.mem_of_mem_drop hc)
theorem qfX{s:List UInt8}(h:q4B s){i:Nat}(hi:i<s.length):48≤s[i].toNat∧s[i].toNat≤57:=h _ (List.getElem_mem hi)
theorem qv6{s:List UInt8}(h:q4B s){i:Nat}(hi:i<s.length):wl .i64 (qv .u8 (sat s (i:Int)) 48)=(dv s[i]:Int)∧dv s[i]<10:=by
 have hd:=qfX h hi
 rw[qhX hi,qD5 (by omega),qja (by omega)]
 unfold dv;omega
theorem qhf(m:Int)(hl:(tN m.natAbs).length≤18):(yo [.s (tI m)]).run=some (0,[.i m]):=by
 rw[qoT]
 have hd:=zN m.natAbs
 have k:=jy (S:=ug) (fun i=>[.s (tI m),.i (val ((tN m.natAbs).take i):Int),.s (tN m.natAbs),.i (i:Int)]) (0,[.s (tI m),.i (m.natAbs:Int)]) (tN m.natAbs).length (by omega) (fun i hi=>by
  rw[qc4]
  obtain⟨e1,e2⟩:=qv6 hd hi
  have hv:=q5K (qsM hd i)
  have hv2:10^((tN m.natAbs).take i).length≤100000000000000000:=Nat.le_trans (Nat.pow_le_pow_right (n:=10) (by omega) (show _≤17 by rw[List.length_take];omega)) (by decide)
  have hv3:=Nat.lt_of_lt_of_le hv hv2
  clear hv hv2
  have hlt:(i:Int)<qm (tN m.natAbs):=by unfold qm;omega
  have e3:qh .i64 (u7 .i64 10 (val ((tN m.natAbs).take i):Int)) (dv (tN m.natAbs)[i]:Int)=((10*val ((tN m.natAbs).take i)+dv (tN m.natAbs)[i]:Nat):Int):=by
   rw[q4G (by omega),qN (by omega)];omega
  simp only[STD,hlt,q4v,and_self,e1,q1m hi (by omega),q8o hi,e3]) (by
  rw[qc4]
  have:¬((tN m.natAbs).length:Int)<qm (tN m.natAbs):=by unfold qm;omega
  simp only[STD,this,List.take_length,kX])
 have k':(qg ug [.s (tI m),.i 0,.s (tN m.natAbs),.i 0]).run=_:=k
 have hm:m.natAbs<1000000000000000000:=Nat.lt_of_lt_of_le (q4K hl) (by decide)
 have hneg:m<0→qv .i64 0 (m.natAbs:Int)=m:=fun h=>by rw[qvR (by omega)];omega
 have hpos:¬m<0→(m.natAbs:Int)=m:=fun h=>by omega
 clear hm k hd
 simp only[STD,wi,k',vt]
 by_cases h:m<0
 ·rw[if_pos h,hneg h]
 ·rw[if_neg h,hpos h]
theorem q57(m n:Int):(zW [.s (tI m),.s (tI n)]).run=some (0,if (tN m.natAbs).length≤18∧(tN n.natAbs).length≤18 then [.i m,.i n,.b true] else [.i 0,.i 0,.b false]):=by
 rw[qpI]
 have e:∀t:List UInt8,(18<qm t)=¬(t.length≤18):=fun t=>by unfold qm;simp only[eq_iff_iff];omega
 by_cases h1:(tN m.natAbs).length≤18
 ·by_cases h2:(tN n.natAbs).length≤18
  ·simp only[STD,wi,e,h1,h2,qhf m h1,qhf n h2,and_self]
  ·simp only[STD,wi,e,h1,h2,and_false]
 ·simp only[STD,wi,e,h1,false_and]
theorem qs8{d:Int}(h0:0≤d)(h:d<10):qgB [[.i (wl .u8 (qh .i64 48 d))]]=[dch d.toNat]:=by
 rw[qN (by omega),qqj (by omega)]
 show [UInt8.ofNat (48+d).toNat]=[UInt8.ofNat (48+d.toNat)]
 rw[show (48+d).toNat=48+d.toNat by omega]
theorem qA4{S:List PV→TR}(hS:∀(y0:Int) (y1:List UInt8),S [.i y0,.s y1]=(.br (ilt 9 y0) (.br (ile ((qm (qgB [[(.i (wl .u8 (qh .i64 48 (q5N y0 10))))]]))+(qm y1)) 140737488355328) (.leaf (0,[(.i (jo .i64 y0 10)),(.s (qbC (qgB [[(.i (wl .u8 (qh .i64 48 (q5N y0 10))))]]) y1))])) .fail) (.leaf (1,[(.i y0),(.s y1)]))))
  (n:Nat) (hn:n<9223372036854775808):∃(a:Nat) (r:List UInt8),(qg S [.i (n:Int),.s []]).run=some (0,[.i (a:Int),.s r])∧a<10∧tN n=tN a++r:=by
 have hlen:(tN n).length≤19:=q5A 18 n (by omega)
 obtain⟨j,qs,h1,h2⟩:=vr (S:=S) (fun k ps=>∃(r:List UInt8),ps=[.i (k:Int),.s r]∧tN n=tN k++r) (fun j qs=>∃(a:Nat) (r:List UInt8),j=0∧qs=[.i (a:Int),.s r]∧a<10∧tN n=tN a++r) hn (fun k ps hk ⟨r,hps,ht⟩=>by
  subst hps
  by_cases h9:k<10
  ·right
   have:¬(9:Int)<(k:Int):=by omega
   exact⟨0,_,by rw[hS];simp only[STD,this],k,r,rfl,rfl,h9,ht⟩
  ·left
   have h9':(9:Int)<(k:Int):=by omega
   have hr:q5N (k:Int) 10=((k%10:Nat):Int):=qmO k 10
   have hq:jo .i64 (k:Int) 10=((k/10:Nat):Int):=qr4 (b:=10) (by omega)
   have hd:qgB [[(.i (wl .u8 (qh .i64 48 (q5N (k:Int) 10))))]]=[dch (k%10)]:=by
    rw[hr,qs8 (by omega) (by omega)];rfl
   have hrl:r.length≤19:=by
    have:=congrArg List.length ht
    rw[List.length_append] at this;omega
   have hle:qm [dch (k%10)]+qm r≤140737488355328:=by
    show (1:Int)+(r.length:Int)≤_;omega
   refine⟨k/10,[.i ((k/10:Nat):Int),.s ([dch (k%10)]++r)],by omega,?_,_,rfl,?_⟩
   ·rw[hS];simp only[STD,h9',hd,hq,hle];rfl
   ·rw[ht,qv3 (by omega),List.append_assoc]) (ps:=[.i (n:Int),.s []]) ⟨[],rfl,by simp⟩
 obtain⟨a,r,rfl,rfl,h3,h4⟩:=h2
 exact⟨a,r,h1,h3,h4⟩
theorem qyC{a:Nat}{r:List UInt8}(ha:a<10):qbC (qgB [[(.i (wl .u8 (qh .i64 48 (a:Int))))]]) r=tN a++r:=by
 rw[qs8 (by omega) (by omega),qu1 ha];rfl
theorem of_le{a:Nat}{r:List UInt8}(ha:a<10)(hr:r.length≤1000):qm (qgB [[(.i (wl .u8 (qh .i64 48 (a:Int))))]])+qm r≤140737488355328:=by
 rw[qs8 (by omega) (by omega)]
 show (1:Int)+(r.length:Int)≤_;omega
theorem qC1{x:Int}(h1:-9223372036854775808<x)(h2:x≤9223372036854775807):qv .i64 0 x=-x:=qvR (by omega)
theorem qEj(n:Nat)(hn:n<9223372036854775808):(q4o [.i (n:Int)]).run=some (0,[.s (tN n)])∧(qW [.i (n:Int)]).run=some (0,[.s (tN n)]):=by
 obtain⟨a,r,h1,h2,h3⟩:=qA4 qqa n hn
 obtain⟨a',r',h1',h2',h3'⟩:=qA4 qse n hn
 have hlen:(tN n).length≤19:=q5A 18 n (by omega)
 have hr:r.length≤1000:=by have:=congrArg List.length h3;rw[List.length_append] at this;omega
 have hr':r'.length≤1000:=by have:=congrArg List.length h3';rw[List.length_append] at this;omega
 have hneg:qv .i64 0 (n:Int)=-(n:Int):=qC1 (by omega) (by omega)
 have h0:((n:Int)=-(n:Int))=(n=0):=by simp only[eq_iff_iff];omega
 have hlt:¬(n:Int)<0:=by omega
 have hz:((n:Int)=0)=(n=0):=by simp only[eq_iff_iff];omega
 constructor
 ·rw[qug]
  simp only[STD,hneg,h0,hz,hlt,h1,qyC h2,of_le h2 hr,←h3]
  by_cases h:n=0<;>simp[h]
 ·rw[qoC]
  simp only[STD,hneg,h0,hz,hlt,h1',qyC h2',of_le h2' hr',←h3']
  by_cases h:n=0<;>simp[h]
theorem ub(n:Int)(h1:-9223372036854775808<n)(h2:n≤9223372036854775807):(qW [.i n]).run=some (0,[.s (tI n)]):=by
 by_cases h:n<0
 ·obtain⟨a,ha⟩:∃a:Nat,n=-(a:Int):=⟨n.natAbs,by omega⟩
  subst ha
  have hneg:qv .i64 0 (-(a:Int))=(a:Int):=by rw[qC1 (by omega) (by omega)];omega
  have hlen:(tN a).length≤19:=q5A 18 a (by omega)
  have ht:=qbb (a:Int) (by simp;omega)
  rw[kE] at ht
  rw[qoC]
  have e1:¬(-(a:Int)=(a:Int)):=by omega
  simp only[STD,hneg,h,e1,(qEj a (by omega)).1,ht]
 ·obtain⟨a,rfl⟩:∃a:Nat,n=(a:Int):=⟨n.toNat,by omega⟩
  rw[(qEj a (by omega)).2,kE]
theorem qfv(m n:Nat):(uu [.s (tN m),.s (tN n)]).run=some (0,[.b (decide (m<n))]):=by
 rw[qrF]
 have h:=qw9 m n
 have e1:(qm (tN m)<qm (tN n))=((tN m).length<(tN n).length):=by unfold qm;simp only[eq_iff_iff];omega
 have e2:(qm (tN m)=qm (tN n))=((tN m).length=(tN n).length):=by unfold qm;simp only[eq_iff_iff];omega
 simp only[STD,e1,e2]
 by_cases h1:(tN m).length<(tN n).length
 ·have:m<n:=h.1 (.inl h1)
  simp[h1,this]
 ·by_cases h2:(tN m).length=(tN n).length
  ·cases hs:slt (tN m) (tN n) with
   | true=>simp[h2,h.1 (.inr ⟨h2,hs⟩)]
   | false=>
    have:¬m<n:=fun hh=>by rcases h.2 hh with h3|⟨_,h3⟩<;>simp_all
    simp[h2,this]
  ·have:¬m<n:=fun hh=>by rcases h.2 hh with h3|⟨h3,_⟩<;>omega
   simp[h1,h2,this]
end Go.Eng

namespace Go.Eng
theorem qlx(s:List UInt8)(n:Nat)(h0:0<n)(hn:n≤1000000000)(hl:s.length≤n):(q2r [.s s,.i (n:Int)]).run=some (0,[.s (List.replicate (n-s.length) 48++s)]):=by
 rw[qrp]
 have k:=jy (S:=q17) (fun i=>[.s s,.i (n:Int),.i (i:Int),.r (rI (List.replicate i 48++List.replicate (n-i) 0))]) (0,[.s s,.i (n:Int),.r (rI (List.replicate n 48))]) n (by omega) (fun i hi=>by
  rw[qfm]
  have h1:(i:Int)<(n:Int):=by omega
  have h2:(i:Int)<qj (rI (List.replicate i 48++List.replicate (n-i) 0)):=by rw[qiy];simp;omega
  have h3:(List.replicate i (48:Int)++List.replicate (n-i) 0).set (i:Int).toNat 48=List.replicate (i+1) 48++List.replicate (n-(i+1)) 0:=by
   rw[Int.toNat_natCast,List.set_append_right _ _ (by simp),List.length_replicate,Nat.sub_self]
   rw[show n-i=(n-(i+1))+1 by omega,List.replicate_succ,List.set_cons_zero,List.replicate_succ']
   simp
  simp only[STD,h1,h2,q4v,and_self,q1m hi (by omega),qtd,h3]) (by
  rw[qfm]
  simp only[STD,Int.lt_irrefl,Nat.sub_self,List.replicate_zero,List.append_nil])
 have k':(qg q17 [.s s,.i (n:Int),.i 0,.r (rI (List.replicate n 0))]).run=some (0,[.s s,.i (n:Int),.r (rI (List.replicate n 48))]):=by simpa using k
 have e1:qv .i64 (n:Int) (qm s)=((n-s.length:Nat):Int):=by
  rw[wO (by unfold qm;omega)];unfold qm;omega
 have e2:(0:Int)≤(n:Int):=by omega
 have e3:(n:Int)≤140737488355328:=by omega
 have e4:(0:Int)<qj (rI (List.replicate n 48)):=by rw[qiy,List.length_replicate];omega
 have e5:((n-s.length:Nat):Int)≤qj (rI (List.replicate n 48)):=by rw[qiy,List.length_replicate];omega
 have e6:qm s≤qvA (qj (rI (List.replicate n 48))) ((n-s.length:Nat):Int):=by rw[qiy,List.length_replicate];unfold qvA qm;omega
 have e7:qgB (rI (List.take ((n-s.length:Nat):Int).toNat (List.replicate n 48)++s.map (fun c=>(c.toNat:Int))++List.drop (((n-s.length:Nat):Int).toNat+s.length) (List.replicate n 48)))=List.replicate (n-s.length) 48++s:=by
  rw[Int.toNat_natCast,List.take_replicate,List.drop_replicate,Nat.min_eq_left (by omega),show n-(n-s.length+s.length)=0 by omega,List.replicate_zero,List.append_nil]
  have:List.replicate (n-s.length) (48:Int)=(List.replicate (n-s.length) (48:UInt8)).map fun c=>(c.toNat:Int):=by rw[List.map_replicate];rfl
  rw[this,←List.map_append,qkM]
 simp only[STD,qhJ,Int.toNat_natCast,e2,e3,and_self,k',e4,e5,e1,q4v,e6,qE6]
 rw[Int.toNat_natCast] at e7
 rw[e7]
theorem qa6{s:List UInt8}(hd:q4B s)(hn:s≠[])(hl:s.length≤1000000000):(zE [.s s]).run=some (0,[.s (tN (val s))]):=by
 rw[qsl]
 obtain⟨j,qs,h1,h2⟩:=vr (S:=q3F) (fun k ps=>∃t:List UInt8,ps=[.s t]∧t.length=k∧q4B t∧t≠[]∧val t=val s) (fun j qs=>j=0∧qs=[.s (tN (val s))]) (n:=s.length) (by omega) (fun k ps hk ⟨t,hps,hlk,hdt,hnt,hv⟩=>by
  subst hps
  have hp:0<t.length:=List.length_pos_iff.2 hnt
  have hs0:(0:Int)<qm t:=by unfold qm;omega
  rw[qoI]
  by_cases h1:1<t.length
  ·have hs1:(1:Int)<qm t:=by unfold qm;omega
   obtain⟨c,u,rfl⟩:∃c u,t=c::u:=by
    cases t with
    | nil=>exact absurd rfl hnt
    | cons c u=>exact⟨c,u,rfl⟩
   have hsat:sat (c::u) 0=(c.toNat:Int):=by simp[sat]
   by_cases h48:c=48
   ·left
    subst h48
    have hu:u≠[]:=by intro h;subst h;simp at h1
    refine⟨u.length,[.s u],by simp at hlk;omega,?_,u,rfl,rfl,(q0b.1 hdt).2,hu,by rw[←hv,qwQ]⟩
    have hsub:qaA (48::u) 1 (qm (48::u))=u:=by simp[qaA,qm]
    have h48':(((48:UInt8).toNat:Nat):Int)=48:=rfl
    simp only[STD,hs1,hs0,hsat,h48',Int.le_refl,and_self,Int.le_of_lt hs1,Int.le_of_lt hs0,show (0:Int)≤1 by omega,hsub]
   ·right
    have hne:¬((c.toNat:Int)=48):=fun h=>h48 (UInt8.toNat_inj.1 (by show c.toNat=48;omega))
    refine⟨0,[.s (c::u)],?_,rfl,?_⟩
    ·simp only[STD,hs1,hs0,hsat,hne,Int.le_refl,and_self]
    ·rw[←hv,←qnZ hdt hnt (.inr (by simpa using h48))]
  ·right
   have hs1:¬(1:Int)<qm t:=by unfold qm;omega
   refine⟨0,[.s t],?_,rfl,?_⟩
   ·simp only[STD,hs1]
   ·rw[←hv,←qnZ hdt hnt (.inl (by omega))]) (ps:=[.s s]) ⟨s,rfl,rfl,hd,hn,rfl⟩
 obtain⟨rfl,rfl⟩:=h2
 simp only[STD,h1]
theorem qAN{x y:UInt8}(hx:48≤x.toNat∧x.toNat≤57)(hy:48≤y.toNat∧y.toNat≤57)(c:Nat)(hc:c≤1)(add:Bool) :
  ∃(d:UInt8) (c':Nat),(48≤d.toNat∧d.toNat≤57)∧c'≤1∧(q1b [.i x.toNat,.i y.toNat,.i (c:Int),.b add]).run=some (0,[.i d.toNat,.i (c':Int)]) ∧
   (if add then dv x+dv y+c=dv d+10*c' else dv x+10*c'=dv y+c+dv d):=by
 have ex:wl .i64 (qv .u8 (x.toNat:Int) 48)=(dv x:Int):=by rw[qD5 (by omega),qja (by omega)];unfold dv;omega
 have ey:wl .i64 (qv .u8 (y.toNat:Int) 48)=(dv y:Int):=by rw[qD5 (by omega),qja (by omega)];unfold dv;omega
 have lx:=qy4 hx
 have ly:=qy4 hy
 have mk:∀v:Nat,v<10→((dch v).toNat:Int)=48+v:=fun v hv=>by rw[q2b hv];omega
 rw[qnB]
 simp only[STD,ex,ey]
 cases add with
 | true=>
  simp only[STD]
  have e1:qh .i64 (qh .i64 (dv x:Int) (dv y:Int)) (c:Int)=((dv x+dv y+c:Nat):Int):=by rw[qN (x:=(dv x:Int)) (by omega),qN (by omega)];omega
  rw[e1]
  by_cases h9:9<dv x+dv y+c
  ·have h9':(9:Int)<((dv x+dv y+c:Nat):Int):=by omega
   refine⟨dch (dv x+dv y+c-10),1,by rw[q2b (by omega)];omega,by omega,?_,by rw[qlu (by omega)];omega⟩
   rw[if_pos h9',qN (by omega),wO (by omega),qqj (by omega),mk _ (by omega)]
   rw[show (48:Int)+((dv x+dv y+c:Nat):Int)-10=48+((dv x+dv y+c-10:Nat):Int) by omega];rfl
  ·have h9':¬(9:Int)<((dv x+dv y+c:Nat):Int):=by omega
   have h0:¬((dv x+dv y+c:Nat):Int)<0:=by omega
   refine⟨dch (dv x+dv y+c),0,by rw[q2b (by omega)];omega,by omega,?_,by rw[qlu (by omega)];omega⟩
   rw[if_neg h9',if_neg h0,qN (by omega),qqj (by omega),mk _ (by omega)];rfl
 | false=>
  simp only[STD]
  have e1:qv .i64 (qv .i64 (dv x:Int) (dv y:Int)) (c:Int)=(dv x:Int)-dv y-c:=by rw[wO (x:=(dv x:Int)) (by omega),wO (by omega)]
  rw[e1]
  have h9':¬(9:Int)<(dv x:Int)-dv y-c:=by omega
  rw[if_neg h9']
  by_cases h0:(dv x:Int)-dv y-c<0
  ·refine⟨dch (dv x+10-dv y-c),1,by rw[q2b (by omega)];omega,by omega,?_,?_⟩
   ·rw[if_pos h0,qN (x:=48) (by omega),qN (by omega),qqj (by omega),mk _ (by omega)]
    rw[show (48:Int)+((dv x:Int)-dv y-c)+10=48+((dv x+10-dv y-c:Nat):Int) by omega];rfl
   ·rw[qlu (by omega)];omega
  ·refine⟨dch (dv x-dv y-c),0,by rw[q2b (by omega)];omega,by omega,?_,?_⟩
   ·rw[if_neg h0,qN (by omega),qqj (by omega),mk _ (by omega)]
    rw[show (48:Int)+((dv x:Int)-dv y-c)=48+((dv x-dv y-c:Nat):Int) by omega];rfl
   ·rw[qlu (by omega)];omega
theorem qzL{s:List UInt8}{k:Nat}(h:k<s.length):s.drop k=s[k]::s.drop (k+1):=(List.drop_eq_getElem_cons h)
theorem qx4{s:List UInt8}{k:Nat}(h:k<s.length):val (s.drop k)=dv s[k]*10^(s.length-(k+1))+val (s.drop (k+1)):=by
 rw[qzL h,q5v,List.length_drop]
theorem qt0{a b:List UInt8}{n:Nat}(ha:q4B a)(hb:q4B b)(hla:a.length=n)(hlb:b.length=n)(hn:n≤100000001)(add:Bool) :
  ∃(t:List UInt8) (c:Nat),(qg q0f [.s a,.s b,.b add,.i 0,.i ((n:Int)-1),.r (rI (List.replicate n 0))]).run=some (0,[.r (rI (t.map fun c=>(c.toNat:Int)))])∧q4B t∧t.length=n ∧
   (if add then val a+val b=val t+c*10^n else val a+c*10^n=val b+val t):=by
 obtain⟨j,qs,h1,h2⟩:=vr (S:=q0f) (fun k ps=>∃(t:List UInt8) (c:Nat),ps=[.s a,.s b,.b add,.i (c:Int),.i ((k:Int)-1),.r (rI (List.replicate k 0++t.map fun c=>(c.toNat:Int)))]∧c≤1∧q4B t∧k+t.length=n ∧
   (if add then val (a.drop k)+val (b.drop k)=val t+c*10^(n-k) else val (a.drop k)+c*10^(n-k)=val (b.drop k)+val t))
  (fun j qs=>j=0∧∃(t:List UInt8) (c:Nat),qs=[.r (rI (t.map fun c=>(c.toNat:Int)))]∧q4B t∧t.length=n∧(if add then val a+val b=val t+c*10^n else val a+c*10^n=val b+val t)) (n:=n) (by omega) (fun k ps hk ⟨t,c,hps,hc,hdt,hlt,hrel⟩=>by
  subst hps
  rw[qmp]
  cases k with
  | zero=>
   right
   have:¬(0:Int)≤((0:Nat):Int)-1:=by omega
   refine⟨0,[.r (rI (t.map fun c=>(c.toNat:Int)))],?_,rfl,t,c,rfl,hdt,by omega,by simpa using hrel⟩
   simp only[STD,this,List.replicate_zero,List.nil_append]
  | succ k=>
   left
   have e0:((k+1:Nat):Int)-1=(k:Int):=by omega
   rw[e0]
   have hka:k<a.length:=by omega
   have hkb:k<b.length:=by omega
   obtain⟨d,c',hd,hc',hrun,hcol⟩:=qAN (qfX ha hka) (qfX hb hkb) c hc add
   have h3:(k:Int)<qm a:=by unfold qm;omega
   have h4:(k:Int)<qm b:=by unfold qm;omega
   have h5:(k:Int)<qj (rI (List.replicate (k+1) 0++t.map fun c=>(c.toNat:Int))):=by rw[qiy];simp;omega
   have h6:(List.replicate (k+1) (0:Int)++t.map fun c=>(c.toNat:Int)).set (k:Int).toNat (d.toNat:Int)=List.replicate k 0++(d::t).map fun c=>(c.toNat:Int):=by
    rw[Int.toNat_natCast,List.replicate_succ',List.append_assoc,List.set_append_right _ _ (by simp),List.length_replicate,Nat.sub_self];rfl
   have h7:qv .i64 (k:Int) 1=(k:Int)-1:=wO (by omega)
   refine⟨k,[.s a,.s b,.b add,.i (c':Int),.i ((k:Int)-1),.r (rI (List.replicate k 0++(d::t).map fun c=>(c.toNat:Int)))],by omega,?_,d::t,c',rfl,hc',q0b.2 ⟨hd,hdt⟩,by simp;omega,?_⟩
   ·simp only[STD,q4v,h3,h4,h5,and_self,qhX hka,qhX hkb,hrun,qtd,h6,h7]
   ·rw[qx4 hka,qx4 hkb,q5v,hla,hlb,show t.length=n-(k+1) by omega,show n-k=(n-(k+1))+1 by omega,Nat.pow_succ]
    generalize 10^(n-(k+1))=p at *
    cases add with
    | true=>
     simp only[↓reduceIte] at hrel hcol ⊢
     have:=congrArg (·*p) hcol
     simp only[Nat.add_mul] at this
     grind
    | false=>
     simp only[Bool.false_eq_true,↓reduceIte] at hrel hcol ⊢
     have:=congrArg (·*p) hcol
     simp only[Nat.add_mul] at this
     grind) (ps:=[.s a,.s b,.b add,.i 0,.i ((n:Int)-1),.r (rI (List.replicate n 0))]) ⟨[],0,by simp,by omega,qjS,by simp,by
    rw[List.drop_eq_nil_of_le (by omega),List.drop_eq_nil_of_le (by omega)];cases add<;>simp[qdz]⟩
 obtain⟨rfl,t,c,rfl,h3,h4,h5⟩:=h2
 exact⟨t,c,h1,h3,h4,h5⟩
theorem qzJ{m n t c p:Nat}{add:Bool}(hm:m<p)(hn:n<p)(ht:t<p*10)(h4:if add then m+n=t+c*(p*10) else m+c*(p*10)=n+t)(hle:add=false→n≤m):t=if add then m+n else m-n:=by
 have hc0:c=0:=by
  rcases Nat.eq_zero_or_pos c with h|h
  ·exact h
  ·exfalso
   have h5:1*(p*10)≤c*(p*10):=Nat.mul_le_mul_right (p*10) h
   cases add with
   | true=>simp only[↓reduceIte] at h4;omega
   | false=>simp only[Bool.false_eq_true,↓reduceIte] at h4;have:=hle rfl;omega
 subst hc0
 cases add with
 | true=>simp only[↓reduceIte] at h4 ⊢;omega
 | false=>simp only[Bool.false_eq_true,↓reduceIte] at h4 ⊢;omega
theorem qrX(a b:Nat):qeF (a:Int) (b:Int)=((max a b:Nat):Int):=by unfold qeF;split<;>omega
theorem q8y(m n:Nat)(add:Bool)(hm:(tN m).length≤100000000)(hn:(tN n).length≤100000000)(hle:add=false→n≤m) :
  (vh [.s (tN m),.s (tN n),.b add]).run=some (0,[.s (tN (if add then m+n else m-n))]):=by
 rw[qpx]
 obtain⟨N,hN⟩:∃N,N=max (tN m).length (tN n).length+1:=⟨_,rfl⟩
 have l1:(tN m).length≤N-1:=by omega
 have l2:(tN n).length≤N-1:=by omega
 have l3:N=N-1+1:=by omega
 have p1:10^(tN m).length≤10^(N-1):=Nat.pow_le_pow_right (Nat.succ_pos 9) l1
 have p2:10^(tN n).length≤10^(N-1):=Nat.pow_le_pow_right (Nat.succ_pos 9) l2
 have p3:10^N=10^(N-1)*10:=(congrArg (10^·) l3).trans (Nat.pow_succ (n:=10) (m:=N-1))
 have e0:qh .i64 (qeF (qm (tN m)) (qm (tN n))) 1=(N:Int):=by
  unfold qm;rw[qrX,qN (by omega)];omega
 have e1:qv .i64 (N:Int) 1=(N:Int)-1:=wO (by omega)
 have e2:(0:Int)≤(N:Int)∧(N:Int)≤140737488355328:=by omega
 have wa:=qlx (tN m) N (by omega) (by omega) (by omega)
 have wb:=qlx (tN n) N (by omega) (by omega) (by omega)
 have hda:q4B (List.replicate (N-(tN m).length) 48++tN m):=q6v.2 ⟨qkz _,zN _⟩
 have hdb:q4B (List.replicate (N-(tN n).length) 48++tN n):=q6v.2 ⟨qkz _,zN _⟩
 obtain⟨t,c,h1,h2,h3,h4⟩:=qt0 (n:=N) hda hdb (by simp;omega) (by simp;omega) (by omega) add
 rw[qoo,qoo,kX,kX] at h4
 have ht:t≠[]:=by intro h;subst h;simp at h3;omega
 have hb:=qa6 h2 ht (by omega)
 have e3:q3i (N:Int) [.i 0]=rI (List.replicate N 0):=by rw[qhJ];rfl
 have hvm:=q5K (zN m)
 have hvn:=q5K (zN n)
 have hvt:=q5K h2
 rw[kX] at hvm hvn
 rw[h3] at hvt
 rw[p3] at h4 hvt
 have q1:=Nat.lt_of_lt_of_le hvm p1
 have q2:=Nat.lt_of_lt_of_le hvn p2
 clear hvm hvn p1 p2 p3
 have hval:val t=if add then m+n else m-n:=qzJ q1 q2 hvt h4 hle
 rw[hval] at hb
 simp only[STD,e0,wa,wb,e1,e2,and_self,e3,h1,qkM,hb]
theorem quZ(m n:Nat):(tN (m+n)).length≤max (tN m).length (tN n).length+1:=by
 have h1:=q5K (zN m)
 have h2:=q5K (zN n)
 rw[kX] at h1 h2
 have p1:10^(tN m).length≤10^(max (tN m).length (tN n).length):=Nat.pow_le_pow_right (by omega) (by omega)
 have p2:10^(tN n).length≤10^(max (tN m).length (tN n).length):=Nat.pow_le_pow_right (by omega) (by omega)
 exact q5A _ _ (by rw[Nat.pow_succ];omega)
theorem qn8(m n:Nat):(tN (m*n)).length≤(tN m).length+(tN n).length:=by
 have h1:=q5K (zN m)
 have h2:=q5K (zN n)
 rw[kX] at h1 h2
 have h3:=qhi m
 have h4:=qhi n
 have:m*n<10^((tN m).length+(tN n).length):=by
  rw[Nat.pow_add]
  exact Nat.mul_lt_mul'' h1 h2
 have:=q5A ((tN m).length+(tN n).length-1) (m*n) (by rwa [show (tN m).length+(tN n).length-1+1=(tN m).length+(tN n).length by omega])
 omega
def nl(m:Int):Nat:=(tN m.natAbs).length
theorem qoQ(m:Int):0<nl m:=qhi _
theorem qoK(m:Int):nl (-m)=nl m:=by unfold nl;rw[Int.natAbs_neg]
theorem qqZ(m n:Int):nl (m+n)≤max (nl m) (nl n)+1:=by
 unfold nl
 exact Nat.le_trans (um (Int.natAbs_add_le m n)) (quZ _ _)
theorem jW(m n:Int):nl (m*n)≤nl m+nl n:=by
 unfold nl;rw[Int.natAbs_mul];exact qn8 _ _
theorem qDz{m:Int}{k:Nat}(h:nl m≤k):m.natAbs<10^k:=q4K h
theorem qlI(m n:Int)(hm:nl m≤100000000-1)(hn:nl n≤100000000-1):(q2i [.s (tI m),.s (tI n)]).run=some (0,[.s (tI (m+n))]):=by
 rw[qrN]
 have hm':(tN m.natAbs).length≤100000000-1:=hm
 have hn':(tN n.natAbs).length≤100000000-1:=hn
 have lt:=qqZ m n
 by_cases hb:(tN m.natAbs).length≤18∧(tN n.natAbs).length≤18
 ·have b1:m.natAbs<1000000000000000000:=Nat.lt_of_lt_of_le (q4K hb.1) (by decide)
  have b2:n.natAbs<1000000000000000000:=Nat.lt_of_lt_of_le (q4K hb.2) (by decide)
  have e1:qh .i64 m n=m+n:=qN (by omega)
  have e2:=ub (m+n) (by omega) (by omega)
  clear b1 b2
  have hbr:=q57 m n
  rw[if_pos hb] at hbr
  simp only[STD,hbr,e1,e2]
 ·have hbr:=q57 m n
  rw[if_neg hb] at hbr
  have hP:=q8y m.natAbs n.natAbs true (by omega) (by omega) (fun h=>by cases h)
  simp only[↓reduceIte] at hP
  simp only[STD,hbr,wi,vt,qfv,decide_eq_decide,hP]
  have la:=quZ m.natAbs n.natAbs
  by_cases hs:(m<0)=(n<0)
  ·have hs':(m<0↔n<0):=by rw[hs]
   rw[if_pos hs']
   simp only[uL _ _ (show (tN (m.natAbs+n.natAbs)).length≤100000000 by omega),STD]
   have e:(if m<0 then -((m.natAbs+n.natAbs:Nat):Int) else ((m.natAbs+n.natAbs:Nat):Int))=m+n:=by
    by_cases h:m<0
    ·rw[if_pos h];have:=hs'.1 h;omega
    ·rw[if_neg h];have:¬n<0:=fun q=>h (hs'.2 q);omega
   rw[e]
  ·have hs':¬(m<0↔n<0):=fun h=>hs (propext h)
   rw[if_neg hs']
   by_cases hlt:m.natAbs<n.natAbs
   ·have hP2:=q8y n.natAbs m.natAbs false (by omega) (by omega) (fun _=>by omega)
    simp only[Bool.false_eq_true,↓reduceIte] at hP2
    have ls:(tN (n.natAbs-m.natAbs)).length≤100000000:=Nat.le_trans (um (Nat.sub_le _ _)) (by omega)
    simp only[STD,hlt,hP2,uL _ _ ls]
    have e:(if n<0 then -((n.natAbs-m.natAbs:Nat):Int) else ((n.natAbs-m.natAbs:Nat):Int))=m+n:=by
     by_cases h:n<0
     ·rw[if_pos h];have:¬m<0:=fun q=>hs' ⟨fun _=>h,fun _=>q⟩;omega
     ·rw[if_neg h];have:m<0:=by
       rcases Decidable.em (m<0) with q|q
       ·exact q
       ·exact absurd ⟨fun x=>absurd x q,fun x=>absurd x h⟩ hs'
      omega
    rw[e]
   ·have hP2:=q8y m.natAbs n.natAbs false (by omega) (by omega) (fun _=>by omega)
    simp only[Bool.false_eq_true,↓reduceIte] at hP2
    have ls:(tN (m.natAbs-n.natAbs)).length≤100000000:=Nat.le_trans (um (Nat.sub_le _ _)) (by omega)
    simp only[STD,hlt,hP2,uL _ _ ls]
    have e:(if m<0 then -((m.natAbs-n.natAbs:Nat):Int) else ((m.natAbs-n.natAbs:Nat):Int))=m+n:=by
     by_cases h:m<0
     ·rw[if_pos h];have:¬n<0:=fun q=>hs' ⟨fun _=>q,fun _=>h⟩;omega
     ·rw[if_neg h];have:n<0:=by
       rcases Decidable.em (n<0) with q|q
       ·exact q
       ·exact absurd ⟨fun x=>absurd x h,fun x=>absurd x q⟩ hs'
      omega
    rw[e]
theorem q8f(m n:Int)(hm:nl m≤100000000-1)(hn:nl n≤100000000-1):(wJ [.s (tI m),.s (tI n)]).run=some (0,[.s (tI (m-n))]):=by
 rw[qpg]
 have ht:=qbb n (by have:(tN n.natAbs).length≤100000000-1:=hn;omega)
 have hp:=qlI m (-n) hm (by rw[qoK];exact hn)
 rw[←Int.sub_eq_add_neg] at hp
 simp only[STD,ht,hp]
def sgn(n:Int):Int:=if n<0 then -1 else if n=0 then 0 else 1
theorem qdG(m n:Int)(hm:nl m≤100000000-1)(hn:nl n≤100000000-1):(ya [.s (tI m),.s (tI n)]).run=some (0,[.i (sgn (m-n))]):=by
 rw[qp8]
 have h0:(tI (m-n)=[48])=(m-n=0):=by
  have:tI 0=[48]:=rfl
  rw[←this];exact propext ⟨fun h=>qu9 h,fun h=>by rw[h]⟩
 simp only[STD,q8f m n hm hn,qS,h0,vt]
 unfold sgn
 by_cases h1:m-n=0
 ·rw[if_pos h1,if_neg (by omega),if_pos h1]
 ·rw[if_neg h1]
  by_cases h2:m-n<0
  ·rw[if_pos h2,if_pos h2]
  ·rw[if_neg h2,if_neg h2,if_neg h1]
end Go.Eng

namespace Go.Eng
def wv(l:List Int):Int:=l.foldl (fun a x=>10*a+x) 0
theorem qs5:∀(t:List Int) (a:Int),t.foldl (fun a x=>10*a+x) a=a*10^t.length+wv t
 | [],a=>by simp[wv]
 | c::t,a=>by
  have h1:=qs5 t (10*a+c)
  have h2:=qs5 t (10*0+c)
  have h3:wv (c::t)=t.foldl (fun a x=>10*a+x) (10*0+c):=rfl
  rw[h3,h2,List.foldl_cons,h1,List.length_cons,Int.pow_succ]
  grind
theorem ql2(c:Int)(t:List Int):wv (c::t)=c*10^t.length+wv t:=by
 have h3:wv (c::t)=t.foldl (fun a x=>10*a+x) (10*0+c):=rfl
 rw[h3,qs5];grind
theorem qDI:wv []=0:=rfl
theorem qBm(n:Nat):wv (List.replicate n 0)=0:=by
 induction n with
 | zero=>rfl
 | succ n ih=>rw[List.replicate_succ,ql2,ih];simp
theorem qBW:∀(l:List Int) (j:Nat) (hj:j<l.length) (y:Int),wv (l.set j y)=wv l+(y-l[j])*10^(l.length-(j+1))
 | [],j,hj,y=>by simp at hj
 | c::t,0,hj,y=>by
  rw[List.set_cons_zero,ql2,ql2]
  simp only[List.getElem_cons_zero,List.length_cons,Nat.add_sub_cancel,Nat.zero_add]
  grind
 | c::t,j+1,hj,y=>by
  have hj':j<t.length:=by simpa using hj
  rw[List.set_cons_succ,ql2,ql2,qBW t j hj' y,List.length_set]
  simp only[List.getElem_cons_succ,List.length_cons]
  rw[show t.length+1-(j+1+1)=t.length-(j+1) by omega]
  grind
theorem qCN{l:List Int}{k:Nat}(h:k<l.length):wv (l.drop k)=l[k]*10^(l.length-(k+1))+wv (l.drop (k+1)):=by
 rw[List.drop_eq_getElem_cons h,ql2,List.length_drop]
theorem vX{l:List Int}{j:Nat}(h:j<l.length):l.getD j 0=l[j]:=by simp[List.getD_eq_getElem?_getD,h]
theorem qov{n i:Nat}(h:i<n):(10:Int)^(n-i)=10^(n-(i+1))*10:=by
 rw[←Int.pow_succ];congr 1;omega
theorem qzE{V A Q B:Int}:V*(Q*10)*B+A*B*Q=(10*V+A)*Q*B:=by grind
theorem qCM{P Q A V y:Int}:A*(10*V+y)*P*Q=A*V*(P*10)*Q+A*y*(P*Q):=by grind
theorem qrc{l:List Int}{j:Nat}{y B:Int}(h:∀x,x∈l→0≤x∧x≤B)(hy:0≤y∧y≤B):∀x,x∈l.set j y→0≤x∧x≤B:=by
 intro x hx
 rcases List.mem_or_eq_of_mem_set hx with h1|h1
 ·exact h x h1
 ·rw[h1];exact hy
theorem qxm{a b:List UInt8}(ha:q4B a)(hb:q4B b){i:Nat}(hi:i<a.length)(hla:a.length≤1000000)(hlb:b.length≤1000000){cols:List Int}(hc:cols.length=a.length+b.length){C:Nat}(hC:C≤1000000000000)
  (hB:∀x,x∈cols→0≤x∧x≤81*(C:Int)) :
  ∃cols':List Int,(qg yI [.s a,.s b,.i (i:Int),.i 0,.r (rI cols)]).run=some (0,[.s a,.s b,.i (i:Int),.r (rI cols')])∧cols'.length=a.length+b.length ∧
   (∀x,x∈cols'→0≤x∧x≤81*((C+b.length:Nat):Int))∧wv cols'=wv cols+(dv a[i]:Int)*(val b:Int)*10^(a.length-(i+1)):=by
 obtain⟨j,qs,h1,h2⟩:=vr (S:=yI) (fun K ps=>∃(k:Nat) (cs:List Int),K+k=b.length∧ps=[.s a,.s b,.i (i:Int),.i (k:Int),.r (rI cs)]∧cs.length=a.length+b.length ∧
   (∀x,x∈cs→0≤x∧x≤81*((C+k:Nat):Int))∧wv cs=wv cols+(dv a[i]:Int)*(val (b.take k):Int)*10^(b.length-k)*10^(a.length-(i+1)))
  (fun j qs=>j=0∧∃cs:List Int,qs=[.s a,.s b,.i (i:Int),.r (rI cs)]∧cs.length=a.length+b.length ∧
   (∀x,x∈cs→0≤x∧x≤81*((C+b.length:Nat):Int))∧wv cs=wv cols+(dv a[i]:Int)*(val b:Int)*10^(a.length-(i+1))) (n:=b.length) (by omega) (fun K ps hK ⟨k,cs,hkK,hps,hlen,hbd,hw⟩=>by
  subst hps
  rw[qjZ]
  cases K with
  | zero=>
   right
   obtain rfl:k=b.length:=by omega
   have:¬(b.length:Int)<qm b:=by unfold qm;omega
   refine⟨0,[.s a,.s b,.i (i:Int),.r (rI cs)],?_,rfl,cs,rfl,hlen,hbd,?_⟩
   ·simp only[STD,this]
   ·rw[hw,List.take_length,Nat.sub_self];grind
  | succ K=>
   left
   have hk:k<b.length:=by omega
   have g1:(k:Int)<qm b:=by unfold qm;omega
   have g2:(i:Int)<qm a:=by unfold qm;omega
   have e1:qh .i64 (qh .i64 (i:Int) (k:Int)) 1=((i+k+1:Nat):Int):=by
    rw[qN (x:=(i:Int)) (by omega),qN (by omega)];omega
   have hj:i+k+1<cs.length:=by omega
   have g3:((i+k+1:Nat):Int)<qj (rI cs):=by rw[qiy];omega
   obtain⟨da,la⟩:=qv6 ha hi
   obtain⟨db,lb⟩:=qv6 hb hk
   have hx:=hbd _ (List.getElem_mem hj)
   have hmul:dv a[i]*dv b[k]≤9*9:=Nat.mul_le_mul (by omega) (by omega)
   have e2:u7 .i64 (dv a[i]:Int) (dv b[k]:Int)=((dv a[i]*dv b[k]:Nat):Int):=by
    rw[q4G (by rw[←Int.natCast_mul];omega)];simp
   have e3:qh .i64 cs[i+k+1] ((dv a[i]*dv b[k]:Nat):Int)=cs[i+k+1]+((dv a[i]*dv b[k]:Nat):Int):=qN (by omega)
   have e4:=q1m hk (by omega)
   refine⟨K,[.s a,.s b,.i (i:Int),.i ((k+1:Nat):Int),.r (rI (cs.set (i+k+1) (cs[i+k+1]+((dv a[i]*dv b[k]:Nat):Int))))],by omega,?_,k+1,_,by omega,rfl,by simpa using hlen,?_,?_⟩
   ·simp only[STD,g1,g2,q4v,and_self,e1,g3,da,db,e2,qCV,Int.toNat_natCast,vX hj,e3,e4,qtd]
   ·refine qrc (fun x hx=>?_) ?_
    ·have:=hbd x hx;omega
    ·omega
   ·rw[qBW _ _ hj,hw,q8o hk,hlen]
    have p1:=qov hk
    have p2:(10:Int)^(a.length+b.length-(i+k+1+1))=10^(b.length-(k+1))*10^(a.length-(i+1)):=by
     rw[←Int.pow_add];congr 1;omega
    rw[p1,p2]
    generalize (10:Int)^(b.length-(k+1))=P
    generalize (10:Int)^(a.length-(i+1))=Q
    simp only[Int.natCast_add,Int.natCast_mul]
    generalize (dv a[i]:Int)=A
    generalize (dv b[k]:Int)=y
    generalize (val (b.take k):Int)=V
    generalize cs[i+k+1]=c
    have:=qCM (P:=P) (Q:=Q) (A:=A) (V:=V) (y:=y)
    grind) (ps:=[.s a,.s b,.i (i:Int),.i 0,.r (rI cols)]) ⟨0,cols,by omega,rfl,hc,by simpa using hB,by simp[qdz]⟩
 obtain⟨rfl,cs,rfl,h3,h4,h5⟩:=h2
 exact⟨cs,h1,h3,h4,h5⟩
theorem qxH{a b:List UInt8}(ha:q4B a)(hb:q4B b)(hla:a.length≤1000000)(hlb:b.length≤1000000) :
  ∃cols:List Int,(qg yD [.s a,.s b,.i 0,.r (rI (List.replicate (a.length+b.length) 0))]).run=some (0,[.r (rI cols)])∧cols.length=a.length+b.length ∧
   (∀x,x∈cols→0≤x∧x≤81000000000000)∧wv cols=(val a:Int)*(val b:Int):=by
 have hsq:∀i,i≤a.length→i*b.length≤1000000000000:=fun i hi=>by
  have:=Nat.mul_le_mul (show i≤1000000 by omega) hlb;omega
 obtain⟨j,qs,h1,h2⟩:=vr (S:=yD) (fun K ps=>∃(i:Nat) (cs:List Int),K+i=a.length∧ps=[.s a,.s b,.i (i:Int),.r (rI cs)]∧cs.length=a.length+b.length ∧
   (∀x,x∈cs→0≤x∧x≤81*((i*b.length:Nat):Int))∧wv cs=(val (a.take i):Int)*10^(a.length-i)*(val b:Int))
  (fun j qs=>j=0∧∃cs:List Int,qs=[.r (rI cs)]∧cs.length=a.length+b.length∧(∀x,x∈cs→0≤x∧x≤81000000000000)∧wv cs=(val a:Int)*(val b:Int)) (n:=a.length) (by omega) (fun K ps hK ⟨i,cs,hiK,hps,hlen,hbd,hw⟩=>by
  subst hps
  rw[qiS]
  have hs:=hsq i (by omega)
  cases K with
  | zero=>
   right
   obtain rfl:i=a.length:=by omega
   have:¬(a.length:Int)<qm a:=by unfold qm;omega
   refine⟨0,[.r (rI cs)],?_,rfl,cs,rfl,hlen,fun x hx=>?_,?_⟩
   ·simp only[STD,this]
   ·have:=hbd x hx;omega
   ·rw[hw,List.take_length,Nat.sub_self];grind
  | succ K=>
   left
   have hi:i<a.length:=by omega
   have g1:(i:Int)<qm a:=by unfold qm;omega
   obtain⟨cs',q1,q2,q3,q4⟩:=qxm ha hb hi hla hlb hlen (C:=i*b.length) hs hbd
   have e4:=q1m hi (by omega)
   refine⟨K,[.s a,.s b,.i ((i+1:Nat):Int),.r (rI cs')],by omega,?_,i+1,cs',by omega,rfl,q2,?_,?_⟩
   ·simp only[STD,g1,q1,e4]
   ·rw[Nat.add_mul,Nat.one_mul];exact q3
   ·rw[q4,hw,q8o hi]
    rw[qov hi,Int.natCast_add,Int.natCast_mul]
    exact qzE) (ps:=[.s a,.s b,.i 0,.r (rI (List.replicate (a.length+b.length) 0))]) ⟨0,List.replicate (a.length+b.length) 0,by omega,rfl,by simp,fun x hx=>by rw[(List.mem_replicate.1 hx).2];omega,by rw[qBm];simp[qdz]⟩
 obtain⟨rfl,cs,rfl,h3,h4,h5⟩:=h2
 exact⟨cs,h1,h3,h4,h5⟩
theorem qyf{cols:List Int}{N:Nat}(hl:cols.length=N)(hN:N≤2000000)(hB:∀x,x∈cols→0≤x∧x≤81000000000000) :
  ∃(t:List UInt8) (c:Nat),(qg jD [.i 0,.i ((N:Int)-1),.r (rI cols),.r (rI (List.replicate N 0))]).run=some (0,[.r (rI (t.map fun c=>(c.toNat:Int)))])∧q4B t∧t.length=N∧wv cols=(val t:Int)+(c:Int)*10^N:=by
 obtain⟨j,qs,h1,h2⟩:=vr (S:=jD) (fun K ps=>∃(t:List UInt8) (c:Nat),ps=[.i (c:Int),.i ((K:Int)-1),.r (rI cols),.r (rI (List.replicate K 0++t.map fun c=>(c.toNat:Int)))]∧c≤81000000000000∧q4B t∧K+t.length=N ∧
   wv (cols.drop K)=(val t:Int)+(c:Int)*10^(N-K))
  (fun j qs=>j=0∧∃(t:List UInt8) (c:Nat),qs=[.r (rI (t.map fun c=>(c.toNat:Int)))]∧q4B t∧t.length=N∧wv cols=(val t:Int)+(c:Int)*10^N) (n:=N) (by omega) (fun K ps hK ⟨t,c,hps,hc,hdt,hlt,hrel⟩=>by
  subst hps
  rw[qhr]
  cases K with
  | zero=>
   right
   have:¬(0:Int)≤((0:Nat):Int)-1:=by omega
   refine⟨0,[.r (rI (t.map fun c=>(c.toNat:Int)))],?_,rfl,t,c,rfl,hdt,by omega,by simpa using hrel⟩
   simp only[STD,this,List.replicate_zero,List.nil_append]
  | succ K=>
   left
   have e0:((K+1:Nat):Int)-1=(K:Int):=by omega
   rw[e0]
   have hk:K<cols.length:=by omega
   obtain⟨x,hx⟩:∃x:Nat,cols[K]=(x:Int)∧x≤81000000000000:=by
    have:=hB _ (List.getElem_mem hk)
    exact⟨cols[K].toNat,by omega,by omega⟩
   have e1:qh .i64 (c:Int) (x:Int)=((c+x:Nat):Int):=by rw[qN (by omega)];omega
   have e2:jo .i64 ((c+x:Nat):Int) 10=(((c+x)/10:Nat):Int):=qr4 (b:=10) (by omega)
   have e3:q5N ((c+x:Nat):Int) 10=(((c+x)%10:Nat):Int):=qmO _ 10
   have e4:wl .u8 (qh .i64 48 (((c+x)%10:Nat):Int))=((dch ((c+x)%10)).toNat:Int):=by
    rw[qN (by omega),qqj (by omega),q2b (by omega)];omega
   have h3:(K:Int)<qj (rI cols):=by rw[qiy];omega
   have h5:(K:Int)<qj (rI (List.replicate (K+1) 0++t.map fun c=>(c.toNat:Int))):=by rw[qiy];simp;omega
   have h6:(List.replicate (K+1) (0:Int)++t.map fun c=>(c.toNat:Int)).set K ((dch ((c+x)%10)).toNat:Int)=List.replicate K 0++(dch ((c+x)%10)::t).map fun c=>(c.toNat:Int):=by
    rw[List.replicate_succ',List.append_assoc,List.set_append_right _ _ (by simp),List.length_replicate,Nat.sub_self];rfl
   have h7:qv .i64 (K:Int) 1=(K:Int)-1:=wO (by omega)
   refine⟨K,[.i (((c+x)/10:Nat):Int),.i ((K:Int)-1),.r (rI cols),.r (rI (List.replicate K 0++(dch ((c+x)%10)::t).map fun c=>(c.toNat:Int)))],by omega,?_,_,_,rfl,by omega,q0b.2 ⟨by rw[q2b (by omega)];omega,hdt⟩,by simp;omega,?_⟩
   ·simp only[STD,q4v,h3,h5,and_self,qCV,Int.toNat_natCast,vX hk,hx.1,e1,e2,e3,e4,qtd,h6,h7]
   ·rw[qCN hk,hrel,q5v,hx.1,hl,qlu (by omega),show t.length=N-(K+1) by omega]
    rw[qov (show K<N by omega)]
    have e:((c+x:Nat):Int)=10*(((c+x)/10:Nat):Int)+(((c+x)%10:Nat):Int):=by omega
    simp only[Int.natCast_add,Int.natCast_mul,Int.natCast_pow] at e ⊢
    generalize hP:(10:Int)^(N-(K+1))=P at *
    generalize (((c+x)/10:Nat):Int)=q at *
    generalize (((c+x)%10:Nat):Int)=r at *
    have:(c:Int)=10*q+r-x:=by omega
    rw[this];grind) (ps:=[.i 0,.i ((N:Int)-1),.r (rI cols),.r (rI (List.replicate N 0))]) ⟨[],0,by simp,by omega,qjS,by simp,by
    rw[List.drop_eq_nil_of_le (by omega)];simp[qdz,qDI]⟩
 obtain⟨rfl,t,c,rfl,h3,h4,h5⟩:=h2
 exact⟨t,c,h1,h3,h4,h5⟩
theorem qnx(m n:Nat)(hm:(tN m).length≤1000000)(hn:(tN n).length≤1000000):(q09 [.s (tN m),.s (tN n)]).run=some (0,[.s (tN (m*n))]):=by
 rw[qmh]
 obtain⟨cols,c1,c2,c3,c4⟩:=qxH (zN m) (zN n) hm hn
 obtain⟨N,hN⟩:∃N,N=(tN m).length+(tN n).length:=⟨_,rfl⟩
 have hp:=qhi m
 rw[←hN] at c1 c2
 obtain⟨t,c,t1,t2,t3,t4⟩:=qyf c2 (by omega) c3
 have ht:t≠[]:=by intro h;subst h;simp at t3;omega
 have hb:=qa6 t2 ht (by omega)
 have e0:qh .i64 (qm (tN m)) (qm (tN n))=(N:Int):=by unfold qm;rw[qN (by omega)];omega
 have e1:(0:Int)≤(N:Int)∧(N:Int)≤17592186044416:=by omega
 have e1':(0:Int)≤(N:Int)∧(N:Int)≤140737488355328:=by omega
 have e2:q3i (N:Int) [.i 0]=rI (List.replicate N 0):=by rw[qhJ];rfl
 have e3:qj (rI cols)=(N:Int):=by rw[qiy,c2]
 have e4:qv .i64 (N:Int) 1=(N:Int)-1:=wO (by omega)
 have hval:val t=m*n:=by
  have v1:=q5K (zN m)
  have v2:=q5K (zN n)
  have v3:=q5K t2
  rw[t3] at v3
  rw[c4,kX,kX] at t4
  rw[kX] at v1 v2
  have v4:m*n<10^N:=by rw[hN,Nat.pow_add];exact Nat.mul_lt_mul'' v1 v2
  have t5:m*n=val t+c*10^N:=by
   have:((m*n:Nat):Int)=((val t+c*10^N:Nat):Int):=by simpa using t4
   omega
  clear t4 c4 v1 v2
  generalize 10^N=P at *
  rcases Nat.eq_zero_or_pos c with h|h
  ·subst h;omega
  ·have:=Nat.mul_le_mul_right P h;omega
 rw[hval] at hb
 simp only[STD,e0,e1,e1',and_self,e2,c1,e3,e4,t1,qkM,hb]
theorem qj4(m n:Int)(hm:nl m≤1000000)(hn:nl n≤1000000):(w9 [.s (tI m),.s (tI n)]).run=some (0,[.s (tI (m*n))]):=by
 rw[qpz]
 have hm':(tN m.natAbs).length≤1000000:=hm
 have hn':(tN n.natAbs).length≤1000000:=hn
 have hbr:=q57 m n
 have hP:=qnx m.natAbs n.natAbs hm' hn'
 have lm:=qn8 m.natAbs n.natAbs
 have hS:=fun b=>uL (m.natAbs*n.natAbs) b (by omega)
 have tm:=qtw m
 have tn:=qtw n
 have e0:qh .i64 (qm (tI m)) (qm (tI n))=(((tI m).length+(tI n).length:Nat):Int):=by unfold qm;rw[qN (by omega)];omega
 have sg:(if (¬((m<0)=(n<0))) then -((m.natAbs*n.natAbs:Nat):Int) else ((m.natAbs*n.natAbs:Nat):Int))=m*n:=by
  by_cases h1:m<0<;>by_cases h2:n<0
  ·simp only[h1,h2,not_true_eq_false,if_false]
   rw[Int.natCast_mul,show (m.natAbs:Int)=-m by omega,show (n.natAbs:Int)=-n by omega];grind
  ·simp only[h1,h2]
   rw[if_pos (by simp),Int.natCast_mul,show (m.natAbs:Int)=-m by omega,show (n.natAbs:Int)=n by omega];grind
  ·simp only[h1,h2]
   rw[if_pos (by simp),Int.natCast_mul,show (m.natAbs:Int)=m by omega,show (n.natAbs:Int)=-n by omega];grind
  ·simp only[h1,h2,not_true_eq_false,if_false]
   rw[Int.natCast_mul,show (m.natAbs:Int)=m by omega,show (n.natAbs:Int)=n by omega]
 by_cases hb:(tN m.natAbs).length≤18∧(tN n.natAbs).length≤18
 ·rw[if_pos hb] at hbr
  by_cases h18:(tI m).length+(tI n).length≤18
  ·have h18':(((tI m).length+(tI n).length:Nat):Int)≤18:=by omega
   have lmn:(tN (m*n).natAbs).length≤18:=by
    rw[Int.natAbs_mul]
    have h3:∀q:Int,(tN q.natAbs).length≤(tI q).length:=fun q=>by unfold tI;split<;>simp
    have:=h3 m;have:=h3 n;omega
   have b1:(m*n).natAbs<1000000000000000000:=Nat.lt_of_lt_of_le (q4K lmn) (by decide)
   have e1:u7 .i64 m n=m*n:=q4G (by omega)
   have e2:=ub (m*n) (by omega) (by omega)
   clear b1
   simp only[STD,hbr,e0,h18',e1,e2]
  ·have h18':¬(((tI m).length+(tI n).length:Nat):Int)≤18:=by omega
   simp only[STD,hbr,e0,h18',wi,hP,vt,hS,decide_eq_decide]
   rw[←sg];simp only[eq_iff_iff]
 ·rw[if_neg hb] at hbr
  simp only[STD,hbr,wi,hP,vt,hS,decide_eq_decide]
  rw[←sg];simp only[eq_iff_iff]
end Go.Eng

namespace Go.Eng
theorem qDQ{x:Int}(h:0≤x∧x≤254):qh .u8 x 1=x+1:=by
 unfold qh IntKind.wrap
 simp[IntKind.signed,IntKind.bits];omega
theorem qw8(a q:List UInt8)(i:Int){b x0:Nat}(hb:0<b)(hx:x0<10*b)(lb:(tN b).length≤1000000)(lx:(tN x0).length≤1000002) :
  (qg jr [.s a,.s (tN b),.s q,.s (tN x0),.i i,.i 48]).run=some (0,[.s a,.s (tN b),.s q,.s (tN (x0%b)),.i i,.i (48+((x0/b:Nat):Int))]):=by
 obtain⟨j,qs,h1,h2⟩:=vr (S:=jr) (fun k ps=>∃x c:Nat,ps=[.s a,.s (tN b),.s q,.s (tN x),.i i,.i (48+(c:Int))]∧x+c*b=x0∧c+k=10∧c≤9)
  (fun j qs=>j=0∧qs=[.s a,.s (tN b),.s q,.s (tN (x0%b)),.i i,.i (48+((x0/b:Nat):Int))]) (n:=10) (by omega) (fun k ps hk ⟨x,c,hps,he,hck,hc⟩=>by
  subst hps
  rw[qi6]
  have hxl:x≤x0:=by rw[←he];exact Nat.le_add_right _ _
  have hP:=q8y x b false (by have:=um hxl;omega) (by omega)
  by_cases hlt:x<b
  ·right
   refine⟨0,[.s a,.s (tN b),.s q,.s (tN x),.i i,.i (48+(c:Int))],?_,rfl,?_⟩
   ·simp only[STD,qfv,hlt,decide_true]
   ·have e1:x0/b=c:=by rw[←he,Nat.add_mul_div_right _ _ hb,Nat.div_eq_of_lt hlt,Nat.zero_add]
    have e2:x0%b=x:=by rw[←he,Nat.add_mul_mod_self_right,Nat.mod_eq_of_lt hlt]
    rw[e1,e2]
  ·left
   have hge:b≤x:=by omega
   have hP:=hP (fun _=>hge)
   simp only[Bool.false_eq_true,↓reduceIte] at hP
   have hc9:c+1<10:=by
    apply Nat.lt_of_mul_lt_mul_right (a:=b)
    have:(c+1)*b=c*b+b:=Nat.succ_mul c b
    omega
   refine⟨k-1,[.s a,.s (tN b),.s q,.s (tN (x-b)),.i i,.i (48+((c+1:Nat):Int))],by omega,?_,x-b,c+1,rfl,?_,by omega,by omega⟩
   ·simp only[STD,qfv,hlt,decide_false,hP,qDQ (show (0:Int)≤48+(c:Int)∧48+(c:Int)≤254 by omega)]
    rw[show (48+(c:Int)+1)=48+((c+1:Nat):Int) by omega]
   ·have:(c+1)*b=c*b+b:=Nat.succ_mul c b
    omega) (ps:=[.s a,.s (tN b),.s q,.s (tN x0),.i i,.i 48]) ⟨x0,0,by simp,by simp,by omega,by omega⟩
 obtain⟨rfl,rfl⟩:=h2
 exact h1
theorem qBE{s:List UInt8}{i:Nat}(h:i<s.length):qaA s (i:Int) (((i+1:Nat):Int))=[s[i]]:=by
 unfold qaA
 simp only[Int.toNat_natCast]
 rw[List.take_succ_eq_append_getElem h,List.drop_append_of_le_length (by simp;omega)]
 rw[List.drop_of_length_le (by simp;omega)];rfl
theorem qo1{m n:Nat}(hn:0<n)(lm:(tN m).length≤1000000)(ln:(tN n).length≤1000000) :
  (q2o [.s (tN m),.s (tN n)]).run=some (0,[.s (tN (m/n)),.s (tN (m%n))]):=by
 rw[qms]
 have hdm:=zN m
 obtain⟨j,qs,h1,rfl,q,h2,h3,h4,h5⟩:=vr (S:=q04) (fun k ps=>∃(i r:Nat) (q:List UInt8),ps=[.s (tN m),.s (tN n),.s q,.s (tN r),.i (i:Int)]∧i+k=(tN m).length∧q.length=i∧q4B q∧val q*n+r=val ((tN m).take i)∧r<n)
  (fun j qs=>j=0∧∃q:List UInt8,qs=[.s q,.s (tN (m%n))]∧q.length=(tN m).length∧q4B q∧val q=m/n) (n:=(tN m).length) (by omega) (fun k ps hk ⟨i,r,q,hps,hik,hql,hdq,hv,hr⟩=>by
  subst hps
  rw[qjQ]
  by_cases hi:i<(tN m).length
  ·left
   have hc:=qfX hdm hi
   have hw:qh .i64 (i:Int) 1=((i+1:Nat):Int):=by rw[qN (by omega)];omega
   have hlr:(tN r).length≤(tN n).length:=um (by omega)
   have hd10:=qy4 hc
   have hB:=qa6 (s:=tN r++[(tN m)[i]]) (q6v.2 ⟨zN r,fun c hcc=>by simp at hcc;subst hcc;exact hc⟩) (by simp) (by simp;omega)
   rw[qjw,kX] at hB
   have lx:(tN (10*r+dv (tN m)[i])).length≤1000002:=by
    have h10:10*r+dv (tN m)[i]≤10*n:=by omega
    have e10:(tN (10*n)).length≤(tN 10).length+(tN n).length:=qn8 10 n
    have e11:(tN 10).length=2:=by decide
    have:=um h10
    omega
   have hI:=qw8 (tN m) q (i:Int) hn (x0:=10*r+dv (tN m)[i]) (by omega) ln lx
   have hq10:(10*r+dv (tN m)[i])/n<10:=by
    rw[Nat.div_lt_iff_lt_mul hn];omega
   have hd1:(i:Int)<qm (tN m):=by unfold qm;omega
   have hd2:((i+1:Nat):Int)≤qm (tN m):=by unfold qm;omega
   have hrs:qgB [[.i (48+(((10*r+dv (tN m)[i])/n:Nat):Int))]]=[dch ((10*r+dv (tN m)[i])/n)]:=by
    simp only[qgB,List.map_cons,List.map_nil,List.getD_cons_zero,U.toI,dch]
    congr 2
   have hl1:qm (tN r)+qm [(tN m)[i]]≤140737488355328:=by unfold qm;simp;omega
   have hl2:qm q+qm [dch ((10*r+dv (tN m)[i])/n)]≤140737488355328:=by unfold qm;simp;omega
   refine⟨k-1,[.s (tN m),.s (tN n),.s (q++[dch ((10*r+dv (tN m)[i])/n)]),.s (tN ((10*r+dv (tN m)[i])%n)),.i ((i+1:Nat):Int)],by omega,?_,i+1,_,_,rfl,by omega,by simp[hql],?_,?_,Nat.mod_lt _ hn⟩
   ·simp only[STD,hw,hd1,hd2,qBE hi,hl1,qbC,hB,hI,hrs,hl2,show (0:Int)≤(i:Int) by omega,show (0:Int)≤((i+1:Nat):Int) by omega,show (i:Int)≤((i+1:Nat):Int) by omega,and_self]
   ·exact q6v.2 ⟨hdq,qsE hq10⟩
   ·rw[qjw,qlu hq10,q8o hi,←hv]
    have hdm:=Nat.div_add_mod (10*r+dv (tN m)[i]) n
    generalize (10*r+dv (tN m)[i])/n=c at *
    generalize (10*r+dv (tN m)[i])%n=e at *
    have e1:(10*val q+c)*n=10*(val q*n)+n*c:=by rw[Nat.add_mul,Nat.mul_assoc,Nat.mul_comm c n]
    omega
  ·right
   have hie:i=(tN m).length:=by omega
   have hd1:¬((i:Int)<qm (tN m)):=by unfold qm;omega
   rw[hie,List.take_length,kX] at hv
   have e1:m/n=val q:=by rw[←hv,Nat.add_comm,Nat.add_mul_div_right _ _ hn,Nat.div_eq_of_lt hr,Nat.zero_add]
   have e2:m%n=r:=by rw[←hv,Nat.add_comm,Nat.add_mul_mod_self_right,Nat.mod_eq_of_lt hr]
   refine⟨0,[.s q,.s (tN r)],?_,rfl,q,by rw[e2],by omega,hdq,e1.symm⟩
   simp only[STD,hd1]) (ps:=[.s (tN m),.s (tN n),.s [],.s [48],.i 0]) ⟨0,0,[],rfl,by omega,rfl,qjS,by simp[qdz],hn⟩
 subst h2
 have hB:=qa6 (s:=q) h4 (by intro h;subst h;have:=qhi m;simp at h3;omega) (by omega)
 rw[h5] at hB
 simp only[STD,h1,hB]
def fq(m n:Int):Int:=if 0<n then m/n else (-m)/(-n)
theorem qkO{m n q:Int}(h:(0<n∧q*n≤m∧m<q*n+n)∨(n<0∧q*n+n<m∧m≤q*n)):fq m n=q:=by
 unfold fq
 rcases h with⟨h0,h1,h2⟩|⟨h0,h1,h2⟩
 ·rw[if_pos h0]
  exact((Int.ediv_emod_unique (r:=m-q*n) h0).2 ⟨by rw[Int.mul_comm];omega,by omega,by omega⟩).1
 ·rw[if_neg (by omega)]
  have e:-n*q=-(q*n):=by rw[Int.neg_mul,Int.mul_comm]
  exact((Int.ediv_emod_unique (r:=q*n-m) (show 0 < -n by omega)).2 ⟨by omega,by omega,by omega⟩).1
theorem qmN{n q:Int}(h:n≠0):fq (q*n) n=q:=by
 apply qkO
 rcases Int.lt_or_lt_of_ne h with h|h
 ·exact .inr ⟨h,by omega,by omega⟩
 ·exact .inl ⟨h,by omega,by omega⟩
theorem qEu(m:Int){n:Int}(_:n≠0):(fq m n).natAbs≤m.natAbs+1:=by
 unfold fq
 split
 ·have:=Int.natAbs_ediv_le_natAbs m n;omega
 ·have:=Int.natAbs_ediv_le_natAbs (-m) (-n);omega
theorem qkN(m:Int){n:Int}(hn:n≠0):n*m.tdiv n+q5N m n=m∧(q5N m n).natAbs<n.natAbs∧(0≤m→0≤q5N m n)∧(m≤0→q5N m n≤0):=by
 unfold q5N
 refine⟨Int.mul_tdiv_add_tmod m n,?_,fun h=>Int.tmod_nonneg n h,fun h=>?_⟩
 ·rw[Int.natAbs_tmod]
  exact Nat.mod_lt _ (by omega)
 ·have:=Int.tmod_nonneg n (show 0≤-m by omega)
  rw[Int.neg_tmod] at this
  omega
end Go.Eng

namespace Go.Eng
theorem qAP{m:Int}(h:(tN m.natAbs).length≤18):m.natAbs<1000000000000000000:=Nat.lt_of_lt_of_le (q4K h) (by decide)
theorem qg5{n t:Int}(hn:n≠0)(h:-9223372036854775808≤t∧t≤9223372036854775807):jo .i64 (n*t) n=t:=by
 unfold jo
 rw[Int.mul_tdiv_cancel_left _ hn]
 unfold IntKind.wrap
 simp[IntKind.signed,IntKind.bits];omega
theorem qCr(m:Int)(n:Int):(m.tdiv n).natAbs≤m.natAbs:=by
 rw[Int.natAbs_tdiv];exact Nat.div_le_self _ _
theorem qBB{m n:Int}(hn:n≠0) :
  (q5N m n≠0∧¬((q5N m n<0)=(n<0))→fq m n=m.tdiv n-1∧m-fq m n*n=q5N m n+n)∧(¬(q5N m n≠0∧¬((q5N m n<0)=(n<0)))→fq m n=m.tdiv n∧m-fq m n*n=q5N m n):=by
 obtain⟨h1,h2,h3,h4⟩:=qkN m hn
 generalize m.tdiv n=t at *
 generalize q5N m n=r at *
 have e:n*t=t*n:=Int.mul_comm _ _
 have e2:(t-1)*n=t*n-n:=by rw[Int.sub_mul,Int.one_mul]
 constructor
 ·intro⟨c1,c2⟩
  have c3:¬(r<0↔n<0):=fun h=>c2 (propext h)
  have:fq m n=t-1:=by
   apply qkO
   rw[e2]
   rcases Int.lt_or_lt_of_ne hn with h|h
   ·have:¬r<0:=fun q=>c3 ⟨fun _=>h,fun _=>q⟩
    exact .inr ⟨h,by omega,by omega⟩
   ·have:r<0:=by
     rcases Decidable.em (r<0) with q|q
     ·exact q
     ·exact absurd ⟨fun x=>by omega,fun x=>by omega⟩ c3
    exact .inl ⟨h,by omega,by omega⟩
  rw[this,e2]
  exact⟨rfl,by omega⟩
 ·intro c
  have c':r=0∨(r<0↔n<0):=by
   rcases Decidable.em (r=0) with q|q
   ·exact .inl q
   ·right
    rcases Decidable.em (r<0↔n<0) with q2|q2
    ·exact q2
    ·exact absurd ⟨q,fun h=>q2 (by rw[h])⟩ c
  have:fq m n=t:=by
   apply qkO
   rcases Int.lt_or_lt_of_ne hn with h|h
   ·rcases c' with q|q
    ·exact .inr ⟨h,by omega,by omega⟩
    ·have:=q.2 h;exact .inr ⟨h,by omega,by omega⟩
   ·rcases c' with q|q
    ·exact .inl ⟨h,by omega,by omega⟩
    ·have:¬r<0:=fun x=>by have:=q.1 x;omega
     exact .inl ⟨h,by omega,by omega⟩
  rw[this]
  exact⟨rfl,by omega⟩
theorem qEh{m n:Int}(hn:n≠0) :
  (m.natAbs%n.natAbs≠0∧¬((m<0)=(n<0))→fq m n=-((m.natAbs/n.natAbs:Nat):Int)-1) ∧
  (¬(m.natAbs%n.natAbs≠0∧¬((m<0)=(n<0)))→fq m n=if ¬((m<0)=(n<0)) then -((m.natAbs/n.natAbs:Nat):Int) else ((m.natAbs/n.natAbs:Nat):Int)):=by
 have hd:=Nat.div_add_mod m.natAbs n.natAbs
 have hl:=Nat.mod_lt m.natAbs (show 0<n.natAbs by omega)
 generalize m.natAbs/n.natAbs=q at *
 generalize m.natAbs%n.natAbs=r at *
 have hq:((n.natAbs*q:Nat):Int)=(n.natAbs:Int)*(q:Int):=by simp
 have e1:n<0→(n.natAbs:Int)*(q:Int)=-((q:Int)*n):=fun h=>by rw[show (n.natAbs:Int)=-n by omega,Int.neg_mul,Int.mul_comm]
 have e2:0<n→(n.natAbs:Int)*(q:Int)=(q:Int)*n:=fun h=>by rw[show (n.natAbs:Int)=n by omega,Int.mul_comm]
 have e3:(-(q:Int)-1)*n=-((q:Int)*n)-n:=by rw[Int.sub_mul,Int.neg_mul,Int.one_mul]
 have e4:(-(q:Int))*n=-((q:Int)*n):=Int.neg_mul _ _
 constructor
 ·intro⟨c1,c2⟩
  have c3:¬(m<0↔n<0):=fun h=>c2 (propext h)
  apply qkO
  rw[e3]
  rcases Int.lt_or_lt_of_ne hn with h|h
  ·have:=e1 h
   have:¬m<0:=fun q=>c3 ⟨fun _=>h,fun _=>q⟩
   exact .inr ⟨h,by omega,by omega⟩
  ·have:=e2 h
   have:m<0:=by
    rcases Decidable.em (m<0) with q|q
    ·exact q
    ·exact absurd ⟨fun x=>by omega,fun x=>by omega⟩ c3
   exact .inl ⟨h,by omega,by omega⟩
 ·intro c
  by_cases c2:(m<0)=(n<0)
  ·rw[if_neg (by simpa using c2)]
   have c3:m<0↔n<0:=by rw[c2]
   apply qkO
   rcases Int.lt_or_lt_of_ne hn with h|h
   ·have:=e1 h
    have:=c3.2 h
    exact .inr ⟨h,by omega,by omega⟩
   ·have:=e2 h
    have:¬m<0:=fun x=>by have:=c3.1 x;omega
    exact .inl ⟨h,by omega,by omega⟩
  ·rw[if_pos c2]
   have hr:r=0:=by
    rcases Nat.eq_zero_or_pos r with h|h
    ·exact h
    ·exact absurd ⟨by omega,c2⟩ c
   have c3:¬(m<0↔n<0):=fun h=>c2 (propext h)
   apply qkO
   rw[e4]
   rcases Int.lt_or_lt_of_ne hn with h|h
   ·have:=e1 h
    have:¬m<0:=fun q=>c3 ⟨fun _=>h,fun _=>q⟩
    exact .inr ⟨h,by omega,by omega⟩
   ·have:=e2 h
    have:m≤0:=by
     rcases Decidable.em (m<0) with q|q
     ·omega
     ·exact absurd ⟨fun x=>by omega,fun x=>by omega⟩ c3
    exact .inl ⟨h,by omega,by omega⟩
theorem qzP:tI 1=[49]:=rfl
theorem q4d(n:Nat):(tN n=[48])=(n=0):=by
 rw[←qvP];exact propext ⟨fun h=>qqo h,fun h=>by rw[h]⟩
theorem qB6(m:Int){n:Int}(hn:n≠0):nl (fq m n)≤nl m+2:=by
 have h:=qEu m hn
 have h2:=um h
 have h3:=quZ m.natAbs 1
 have h4:(tN 1).length=1:=rfl
 have:=qhi m.natAbs
 unfold nl
 omega
theorem q3E(m n:Int)(hn0:n≠0)(hm:nl m≤400000)(hn:nl n≤400000):(zR [.s (tI m),.s (tI n)]).run=some (0,[.s (tI (fq m n)),.s (tI (m-fq m n*n))]):=by
 rw[qnd]
 have hbr:=q57 m n
 by_cases hb:(tN m.natAbs).length≤18∧(tN n.natAbs).length≤18
 ·rw[if_pos hb] at hbr
  have b1:=qAP hb.1
  have b2:=qAP hb.2
  obtain⟨h1,h2,h3,h4⟩:=qkN m hn0
  obtain⟨g1,g2⟩:=qBB (m:=m) hn0
  have ht:=qCr m n
  by_cases c0:q5N m n=0
  ·obtain⟨e1,e2⟩:=g2 (fun h=>h.1 c0)
   rw[e2,e1]
   have w1:qv .i64 m (q5N m n)=n*m.tdiv n:=by rw[wO (by omega)];omega
   have w2:=qg5 (t:=m.tdiv n) hn0 (by omega)
   have o1:=ub (m.tdiv n) (by omega) (by omega)
   have o2:=ub (q5N m n) (by omega) (by omega)
   simp only[STD,hbr,hn0,c0] at w1 o2 ⊢
   simp only[STD,w1,w2,o1,o2]
  ·by_cases c1:(q5N m n<0)=(n<0)
   ·obtain⟨e1,e2⟩:=g2 (fun h=>h.2 c1)
    rw[e2,e1]
    have w1:qv .i64 m (q5N m n)=n*m.tdiv n:=by rw[wO (by omega)];omega
    have w2:=qg5 (t:=m.tdiv n) hn0 (by omega)
    have o1:=ub (m.tdiv n) (by omega) (by omega)
    have o2:=ub (q5N m n) (by omega) (by omega)
    have hbq:(ilt (q5N m n) 0=ilt n 0)=True:=by
     simp only[ilt,decide_eq_decide,eq_iff_iff,iff_true]
     rw[c1]
    simp only[STD,hbr,hn0,c0,hbq,w1,w2,o1,o2]
   ·obtain⟨e1,e2⟩:=g1 ⟨c0,c1⟩
    rw[e2,e1]
    have w0:qh .i64 (q5N m n) n=q5N m n+n:=qN (by omega)
    have e3:n*(m.tdiv n-1)=n*m.tdiv n-n:=by rw[Int.mul_sub,Int.mul_one]
    have w1:qv .i64 m (q5N m n+n)=n*(m.tdiv n-1):=by rw[wO (by omega)];omega
    have w2:=qg5 (t:=m.tdiv n-1) hn0 (by omega)
    have o1:=ub (m.tdiv n-1) (by omega) (by omega)
    have o2:=ub (q5N m n+n) (by omega) (by omega)
    have hbq:(ilt (q5N m n) 0=ilt n 0)=False:=by
     simp only[ilt,decide_eq_decide,eq_iff_iff,iff_false]
     exact fun h=>c1 (propext h)
    simp only[STD,hbr,hn0,c0,hbq,w0,w1,w2,o1,o2]
 ·rw[if_neg hb] at hbr
  have hm':(tN m.natAbs).length≤400000:=hm
  have hn':(tN n.natAbs).length≤400000:=hn
  have hD:=qo1 (m:=m.natAbs) (n:=n.natAbs) (by omega) (by omega) (by omega)
  have lq:(tN (m.natAbs/n.natAbs)).length≤(tN m.natAbs).length:=um (Nat.div_le_self _ _)
  have hS:=fun b=>uL (m.natAbs/n.natAbs) b (by omega)
  have hbq:(decide (m<0)=decide (n<0))=((m<0)=(n<0)):=by
   simp only[decide_eq_decide,eq_iff_iff]
  have lf:=qB6 m hn0
  have hT:=qj4 (fq m n) n (by omega) (by omega)
  have lt:=jW (fq m n) n
  have hM:=q8f m (fq m n*n) (by omega) (by omega)
  obtain⟨g1,g2⟩:=qEh (m:=m) hn0
  by_cases c1:(m<0)=(n<0)
  ·have e1:=g2 (fun h=>h.2 c1)
   rw[if_neg (by simpa using c1)] at e1
   have hS':=hS false
   simp only[Bool.false_eq_true,if_false] at hS'
   rw[←e1] at hS'
   have hnb:(!Go.Eng.beq (decide (m<0)) (decide (n<0)))=false:=by
    simp only[Go.Eng.beq,Bool.not_eq_false',beq_iff_eq];rw[hbq];exact c1
   by_cases c0:m.natAbs%n.natAbs=0
   ·simp only[STD,hbr,wi,hD,vt,hnb,hS',qS,q4d,c0,hT,hM]
   ·simp only[STD,hbr,wi,hD,vt,hnb,hS',qS,q4d,c0,hT,hM]
  ·have hnb:(!Go.Eng.beq (decide (m<0)) (decide (n<0)))=true:=by
    have:¬(decide (m<0)=decide (n<0)):=by rw[hbq];exact c1
    simp only[Go.Eng.beq,Bool.not_eq_true',beq_eq_false_iff_ne];exact this
   have hS':=hS true
   simp only[if_true] at hS'
   by_cases c0:m.natAbs%n.natAbs=0
   ·have e1:=g2 (fun h=>h.1 c0)
    rw[if_pos c1] at e1
    rw[←e1] at hS'
    simp only[STD,hbr,wi,hD,vt,hnb,hS',qS,q4d,c0,hT,hM]
   ·have e1:=g1 ⟨c0,c1⟩
    have hMi:=q8f (-((m.natAbs/n.natAbs:Nat):Int)) 1 (by rw[qoK];show (tN (m.natAbs/n.natAbs)).length≤_;omega) (by decide)
    rw[qzP,←e1] at hMi
    simp only[STD,hbr,wi,hD,vt,hnb,hS',qS,q4d,c0,hMi,hT,hM]
end Go.Eng

namespace Go.Eng
theorem qDm(x:Nat){y:Nat}(h:0<y):fq (x:Int) (y:Int)=((x/y:Nat):Int)∧(x:Int)-fq (x:Int) (y:Int)*(y:Int)=((x%y:Nat):Int):=by
 have e:fq (x:Int) (y:Int)=((x/y:Nat):Int):=by unfold fq;rw[if_pos (by omega)];rfl
 refine⟨e,?_⟩
 rw[e]
 have:=Nat.div_add_mod x y
 have h2:((y*(x/y):Nat):Int)=((x/y:Nat):Int)*(y:Int):=by rw[Nat.mul_comm];simp
 omega
theorem qAZ(a b:Nat)(hb:b<9223372036854775808):(qg yB [.i (a:Int),.i (b:Int)]).run=some (0,[.i ((Nat.gcd a b:Nat):Int)]):=by
 obtain⟨j,qs,h1,rfl,rfl⟩:=vr (S:=yB) (fun k ps=>∃x y:Nat,ps=[.i (x:Int),.i (y:Int)]∧y=k∧Nat.gcd x y=Nat.gcd a b)
  (fun j qs=>j=0∧qs=[.i ((Nat.gcd a b:Nat):Int)]) (n:=b) hb (fun k ps hk ⟨x,y,hps,hy,hg⟩=>by
  subst hps
  rw[qiB]
  by_cases h0:y=0
  ·right
   refine⟨0,[.i (x:Int)],?_,rfl,?_⟩
   ·simp only[STD,h0];simp[]
   ·rw[←hg,h0,Nat.gcd_zero_right]
  ·left
   refine⟨x%y,[.i (y:Int),.i ((x%y:Nat):Int)],by rw[←hy];exact Nat.mod_lt _ (by omega),?_,y,x%y,rfl,rfl,?_⟩
   ·simp only[STD,show (0:Int)<(y:Int) by omega,show ¬((y:Int)=0) by omega,qmO]
   ·rw[←hg,Nat.gcd_comm y,←Nat.gcd_rec,Nat.gcd_comm]) (ps:=[.i (a:Int),.i (b:Int)]) ⟨a,b,rfl,rfl,rfl⟩
 exact h1
def eM(a b:Nat):Nat:=if b=0 then 0 else Nat.log2 (a*b)+1+if a<b then 1 else 0
theorem qyx{m n:Nat}(h:m≤n):Nat.log2 m≤Nat.log2 n:=by
 by_cases hm:m=0
 ·subst hm;simp
 ·rcases Nat.lt_or_ge (Nat.log2 n) (Nat.log2 m) with h1|h1
  ·have:=(Nat.log2_lt (show n≠0 by omega)).1 h1
   have h2:=Nat.log2_self_le hm
   omega
  ·exact h1
theorem qzD{a b:Nat}(hb:b≠0):eM b (a%b)<eM a b:=by
 have hlt:=Nat.mod_lt a (show 0<b by omega)
 unfold eM
 rw[if_neg hb]
 by_cases hr:a%b=0
 ·rw[if_pos hr];omega
 ·rw[if_neg hr,if_neg (show ¬b<a%b by omega)]
  by_cases hab:a<b
  ·rw[if_pos hab,Nat.mod_eq_of_lt hab,Nat.mul_comm b a];omega
  ·rw[if_neg hab]
   have hd:=Nat.div_add_mod a b
   have hq:1≤a/b:=(Nat.le_div_iff_mul_le (by omega)).2 (by omega)
   have h1:b*1≤b*(a/b):=Nat.mul_le_mul_left _ hq
   have h2:2*(b*(a%b))≤a*b:=by
    have:2*(a%b)≤a:=by omega
    have:=Nat.mul_le_mul_right b this
    rw[Nat.mul_assoc,Nat.mul_comm (a%b) b] at this
    exact this
   have h3:=qyx h2
   have h4:Nat.log2 (2*(b*(a%b)))=Nat.log2 (b*(a%b))+1:=by
    apply Nat.log2_two_mul
    exact Nat.mul_ne_zero hb hr
   omega
theorem qzC{x k j:Nat}(h:(tN x).length≤k)(hj:4*k=j):x<2^j:=by
 have h3:x<10^k:=q4K h
 have h4:(10:Nat)^k≤16^k:=Nat.pow_le_pow_left (by omega) _
 have h5:(16:Nat)^k=2^j:=by rw[show (16:Nat)=2^4 from rfl,←Nat.pow_mul,hj]
 rw[h5] at h4
 exact Nat.lt_of_lt_of_le h3 h4
theorem qwx{a b:Nat}(ha:(tN a).length≤400000)(hb:(tN b).length≤400000):eM a b<9223372036854775808:=by
 unfold eM
 have h1:=qn8 a b
 by_cases h0:a*b=0
 ·rw[h0];simp;split<;>(try split)<;>omega
 ·obtain⟨j,hj⟩:∃j,j=3200000:=⟨_,rfl⟩
  have h2:a*b<2^j:=qzC (k:=800000) (by omega) (by omega)
  have:=(Nat.log2_lt h0).2 h2
  split<;>(try split)<;>omega
theorem qgT(m n:Int)(hm:nl m≤400000)(hn:nl n≤400000):(uO [.s (tI m),.s (tI n)]).run=some (0,[.s (tN (Nat.gcd m.natAbs n.natAbs))]):=by
 rw[qoH]
 have hm':(tN m.natAbs).length≤400000:=hm
 have hn':(tN n.natAbs).length≤400000:=hn
 have hS:=fun x (h:(tN x).length≤400000)=>uL x false (by omega)
 simp only[Bool.false_eq_true,if_false,kE] at hS
 obtain⟨j,qs,h1,h2,rfl⟩:=vr (S:=q0N) (fun k ps=>∃x y:Nat,ps=[.s (tN x),.s (tN y)]∧eM x y=k∧Nat.gcd x y=Nat.gcd m.natAbs n.natAbs∧(tN x).length≤400000∧(tN y).length≤400000)
  (fun j qs=>(j=0∨j=1)∧qs=[.s (tN (Nat.gcd m.natAbs n.natAbs))]) (n:=eM m.natAbs n.natAbs) (qwx hm' hn') (fun k ps hk ⟨x,y,hps,hy,hg,lx,ly⟩=>by
  subst hps
  rw[qkU]
  by_cases h0:y=0
  ·right
   refine⟨0,[.s (tN x)],?_,.inl rfl,?_⟩
   ·simp only[STD,qS,q4d,h0]
   ·rw[←hg,h0,Nat.gcd_zero_right]
  ·have hbr:=q57 (x:Int) (y:Int)
   rw[kE,kE] at hbr
   simp only[Int.natAbs_natCast] at hbr
   by_cases hb:(tN x).length≤18∧(tN y).length≤18
   ·right
    rw[if_pos hb] at hbr
    have b1:=qAP (m:=(x:Int)) hb.1
    have b2:=qAP (m:=(y:Int)) hb.2
    simp only[Int.natAbs_natCast] at b1 b2
    have hE:=qAZ x y (by omega)
    have hgl:Nat.gcd x y≤y:=Nat.gcd_le_right _ (by omega)
    have hO:=ub ((Nat.gcd x y:Nat):Int) (by omega) (by omega)
    rw[kE] at hO
    refine⟨1,[.s (tN (Nat.gcd x y))],?_,.inr rfl,by rw[hg]⟩
    simp only[STD,qS,q4d,h0,hbr,hE,hO]
   ·left
    rw[if_neg hb] at hbr
    have hP:=q3E (x:Int) (y:Int) (by omega) (by exact lx) (by exact ly)
    rw[kE,kE,(qDm x (show 0<y by omega)).2,kE] at hP
    refine⟨eM y (x%y),[.s (tN y),.s (tN (x%y))],by rw[←hy];exact qzD h0,?_,y,x%y,rfl,rfl,?_,ly,Nat.le_trans (um (Nat.le_of_lt (Nat.mod_lt _ (by omega)))) ly⟩
    ·simp only[STD,qS,q4d,h0,hbr,hP]
    ·rw[←hg,Nat.gcd_comm y,←Nat.gcd_rec,Nat.gcd_comm]) (ps:=[.s (tN m.natAbs),.s (tN n.natAbs)]) ⟨_,_,rfl,rfl,rfl,hm',hn'⟩
 rcases h2 with rfl|rfl
 ·simp only[STD,wi,hS _ hm',hS _ hn',h1,qw h1,ite_self]
 ·simp only[STD,wi,hS _ hm',hS _ hn',h1,qw h1,ite_self]
def mag(s:List UInt8):List UInt8:=if s.getD 0 0=45 then s.drop 1 else s
theorem quj(m:Int):mag (tI m)=tN m.natAbs:=by
 unfold mag
 by_cases h:m<0
 ·rw[qa8 h];simp
 ·rw[qhA h]
  obtain⟨c,t,e,h1,h2⟩:=qgj (zN m.natAbs) (qnK _)
  rw[e]
  simp only[List.getD_cons_zero]
  rw[if_neg]
  intro hc;subst hc;revert h1;decide
theorem quy(s:List UInt8):(∃m:Int,s=tI m)↔mag s≠[]∧q4B (mag s)∧((mag s).getD 0 0=48→s.length=1):=by
 constructor
 ·rintro ⟨m,rfl⟩
  rw[quj]
  refine⟨qnK _,zN _,fun h=>?_⟩
  rcases qzR m.natAbs with h1|h1
  ·have h2:=qsx m.natAbs
   have hv:m.natAbs=0:=by
    obtain⟨c,e⟩:∃c,tN m.natAbs=[c]:=List.length_eq_one_iff.1 h1
    rw[e] at h
    simp at h
    have:=kX m.natAbs
    rw[e,h] at this
    simpa[val,dv] using this.symm
   have hm0:m=0:=by omega
   rw[hm0];rfl
  ·exact absurd h h1
 ·rintro ⟨h1,h2,h3⟩
  by_cases h45:s.getD 0 0=45
  ·have hm:mag s=s.drop 1:=by unfold mag;rw[if_pos h45]
   obtain⟨c,t,rfl⟩:∃c t,s=c::t:=by
    cases s with
    | nil=>simp at h45
    | cons c t=>exact⟨c,t,rfl⟩
   simp at h45
   subst h45
   rw[hm] at h1 h2 h3
   simp only[List.drop_succ_cons,List.drop_zero] at h1 h2 h3
   have h4:t.getD 0 0≠48:=fun h=>by
    have:=h3 h
    simp at this
    exact h1 this
   have hv:=qwS h2 h1 h4
   have hp:0<10^(t.length-1):=Nat.pow_pos (by omega)
   refine⟨-((val t:Nat):Int),?_⟩
   rw[qa8 (by omega)]
   simp only[Int.natAbs_neg,Int.natAbs_natCast]
   rw[←qnZ h2 h1 (.inr h4)]
  ·have hm:mag s=s:=by unfold mag;rw[if_neg h45]
   rw[hm] at h1 h2 h3
   refine⟨((val s:Nat):Int),?_⟩
   rw[kE]
   refine qnZ h2 h1 ?_
   by_cases h4:s.getD 0 0=48
   ·exact .inl (h3 h4)
   ·exact .inr h4
open Classical in
noncomputable def quB(s:List UInt8):Int:=if ∃m:Int,s=tI m then (if (mag s).length≤1024 then 0 else 11) else 3
theorem qDH(s:List UInt8)(hl:s.length≤9223372036854775807):(qt [.s s]).run=some (0,[.s (mag s)]):=by
 rw[qjs]
 cases s with
 | nil=>simp only[STD,qS];rfl
 | cons c t=>
  have h1:(0:Int)<qm (c::t):=by unfold qm;simp only[List.length_cons];omega
  have h2:(1:Int)≤qm (c::t):=by omega
  have hs:sat (c::t) 0=(c.toNat:Int):=by simp[sat]
  have hc:((c.toNat:Int)=45)=(c=45):=by
   simp only[eq_iff_iff]
   exact⟨fun h=>UInt8.toNat_inj.1 (by show c.toNat=45;omega),fun h=>by rw[h];rfl⟩
  simp only[STD,qS,show ¬(c::t=[]) by simp,h1,h2,hs,hc,Int.le_refl,and_self,show (0:Int)≤qm (c::t) by omega,show (0:Int)≤1 by omega]
  unfold mag
  simp only[List.getD_cons_zero]
  by_cases h:c=45
  ·rw[if_pos h,if_pos h];simp[qaA,qm]
  ·rw[if_neg h,if_neg h]
theorem qjJ(s:List UInt8)(hl:s.length≤1000000000):(q2I [.s s]).run=some (0,[.i (quB s)]):=by
 rw[qpU]
 have hsz:=qDH s (by omega)
 have hml:(mag s).length≤s.length:=by unfold mag;split<;>simp
 obtain⟨j,qs,h1,h2⟩:=vr (S:=kM) (fun k ps=>∃i:Nat,ps=[.s (mag s),.i (i:Int)]∧i+k=(mag s).length∧q4B ((mag s).take i))
  (fun j qs=>(q4B (mag s)∧j=0∧qs=[.s (mag s)])∨(¬q4B (mag s)∧j=1∧qs=[.i 3])) (n:=(mag s).length) (by omega) (fun k ps hk ⟨i,hps,hi,hd⟩=>by
  subst hps
  rw[qmg]
  by_cases hlt:i<(mag s).length
  ·have a1:(i:Int)<qm (mag s):=by unfold qm;omega
   have a2:(0:Int)≤(i:Int):=by omega
   have hs:=qhX hlt
   have hw:qh .i64 (i:Int) 1=((i+1:Nat):Int):=by rw[qN (by omega)];omega
   by_cases b1:((mag s)[i].toNat:Int)<48
   ·right
    refine⟨1,[.i 3],?_,.inr ⟨fun h=>?_,rfl,rfl⟩⟩
    ·simp only[STD,a1,a2,hs,b1,and_self]
    ·have:=(qfX h hlt).1;omega
   ·by_cases b2:(57:Int)<((mag s)[i].toNat:Int)
    ·right
     refine⟨1,[.i 3],?_,.inr ⟨fun h=>?_,rfl,rfl⟩⟩
     ·simp only[STD,a1,a2,hs,b1,b2,and_self]
     ·have:=(qfX h hlt).2;omega
    ·left
     refine⟨k-1,[.s (mag s),.i ((i+1:Nat):Int)],by omega,?_,i+1,rfl,by omega,?_⟩
     ·simp only[STD,a1,a2,hs,b1,b2,and_self,hw]
     ·rw[List.take_succ_eq_append_getElem hlt]
      exact q6v.2 ⟨hd,fun c hc=>by simp at hc;subst hc;omega⟩
  ·right
   have a1:¬((i:Int)<qm (mag s)):=by unfold qm;omega
   refine⟨0,[.s (mag s)],?_,.inl ⟨?_,rfl,rfl⟩⟩
   ·simp only[STD,a1]
   ·rwa [List.take_of_length_le (by omega)] at hd) (ps:=[.s (mag s),.i 0]) ⟨0,rfl,by omega,by simpa using qjS⟩
 have hcan:=quy s
 unfold quB
 by_cases hne:mag s=[]
 ·rw[if_neg (fun h=>(hcan.1 h).1 hne)]
  simp only[STD,hsz,qS,hne]
 ·have hp:0<(mag s).length:=List.length_pos_iff.2 hne
  have a1:(0:Int)<qm (mag s):=by unfold qm;omega
  have hs:sat (mag s) 0=((mag s)[0].toNat:Int):=qhX (i:=0) hp
  have h48:((mag s)[0].toNat:Int)=48↔(mag s).getD 0 0=48:=by
   have:(mag s).getD 0 0=(mag s)[0]:=by simp[List.getD_eq_getElem?_getD,hp]
   rw[this]
   exact⟨fun h=>UInt8.toNat_inj.1 (by show (mag s)[0].toNat=48;omega),fun h=>by rw[h];rfl⟩
  have hl1:(1<qm s)=(1<s.length):=by unfold qm;simp only[eq_iff_iff];omega
  have hl2:(1<qm (mag s))=(1<(mag s).length):=by unfold qm;simp only[eq_iff_iff];omega
  have hl3:(1024<qm (mag s))=¬((mag s).length≤1024):=by unfold qm;simp only[eq_iff_iff];omega
  by_cases hz:((mag s)[0].toNat:Int)=48
  ·by_cases hs1:1<s.length
   ·rw[if_neg (fun h=>by have:=(hcan.1 h).2.2 (h48.1 hz);omega)]
    by_cases hs2:1<(mag s).length
    ·simp only[STD,hsz,qS,hne,a1,hs,hz,hl1,hl2,hs1,hs2,Int.le_refl,and_self]
    ·simp only[STD,hsz,qS,hne,a1,hs,hz,hl1,hl2,hs1,hs2,Int.le_refl,and_self]
   ·have hs2:¬1<(mag s).length:=by omega
    rcases h2 with⟨hd,rfl,rfl⟩|⟨hd,rfl,rfl⟩
    ·rw[if_pos (hcan.2 ⟨hne,hd,fun _=>by omega⟩)]
     simp only[STD,hsz,qS,hne,a1,hs,hz,hl1,hl2,hl3,hs1,hs2,Int.le_refl,and_self,h1,qw h1]
     split<;>simp_all
    ·rw[if_neg (fun h=>hd (hcan.1 h).2.1)]
     simp only[STD,hsz,qS,hne,a1,hs,hz,hl1,hl2,hs1,hs2,Int.le_refl,and_self,h1,qw h1,show ¬(1=0) by omega]
  ·rcases h2 with⟨hd,rfl,rfl⟩|⟨hd,rfl,rfl⟩
   ·rw[if_pos (hcan.2 ⟨hne,hd,fun h=>absurd (h48.2 h) hz⟩)]
    simp only[STD,hsz,qS,hne,a1,hs,hz,hl1,hl2,hl3,Int.le_refl,and_self,h1,qw h1]
    split<;>simp_all
   ·rw[if_neg (fun h=>hd (hcan.1 h).2.1)]
    simp only[STD,hsz,qS,hne,a1,hs,hz,hl1,hl2,Int.le_refl,and_self,h1,qw h1,show ¬(1=0) by omega]
end Go.Eng

namespace Go.Eng
def tQ(q:Rat):List UInt8:=if q.den=1 then tI q.num else tI q.num++47::tN q.den
def dl(n:Nat):Nat:=(tN n).length
def qn(q:Rat):Nat:=nl q.num
def qd(q:Rat):Nat:=dl q.den
theorem qz0{s:List UInt8}(h:q4B s):∀c,c∈s→c≠47:=fun c hc e=>by
 have:=h c hc
 rw[e] at this
 revert this;decide
theorem qpM(m:Int):∀c,c∈tI m→c≠47:=by
 intro c hc
 unfold tI at hc
 split at hc
 ·rcases List.mem_cons.1 hc with rfl|hc
  ·decide
  ·exact qz0 (zN _) c hc
 ·exact qz0 (zN _) c hc
theorem qws:∀{s s' t t':List UInt8},(∀c,c∈s→c≠47)→(∀c,c∈s'→c≠47)→s++47::t=s'++47::t'→s=s'∧t=t'
 | [],[],t,t',_,_,h=>⟨rfl,by simpa using h⟩
 | [],c::s',t,t',_,h2,h=>by
  simp only[List.nil_append,List.cons_append,List.cons.injEq] at h
  exact absurd h.1.symm (h2 c List.mem_cons_self)
 | c::s,[],t,t',h1,_,h=>by
  simp only[List.nil_append,List.cons_append,List.cons.injEq] at h
  exact absurd h.1 (h1 c List.mem_cons_self)
 | c::s,c'::s',t,t',h1,h2,h=>by
  simp only[List.cons_append,List.cons.injEq] at h
  obtain⟨e1,e2⟩:=qws (fun c hc=>h1 c (List.mem_cons_of_mem _ hc)) (fun c hc=>h2 c (List.mem_cons_of_mem _ hc)) h.2
  exact⟨by rw[h.1,e1],e2⟩
theorem q8N{q:Rat}(h:q.den=1):tQ q=tI q.num:=by unfold tQ;rw[if_pos h]
theorem q4H{q:Rat}(h:q.den≠1):tQ q=tI q.num++47::tN q.den:=by unfold tQ;rw[if_neg h]
theorem qE2{a b:Rat}(h:tQ a=tQ b):a=b:=by
 by_cases ha:a.den=1<;>by_cases hb:b.den=1
 ·rw[q8N ha,q8N hb] at h
  exact Rat.ext (qu9 h) (ha.trans hb.symm)
 ·rw[q8N ha,q4H hb] at h
  exact absurd rfl (qpM a.num 47 (by rw[h];simp))
 ·rw[q4H ha,q8N hb] at h
  exact absurd rfl (qpM b.num 47 (by rw[←h];simp))
 ·rw[q4H ha,q4H hb] at h
  obtain⟨e1,e2⟩:=qws (qpM _) (qpM _) h
  exact Rat.ext (qu9 e1) (qqo e2)
theorem qxi(a b:Rat):(tQ a=tQ b)=(a=b):=propext ⟨qE2,fun h=>by rw[h]⟩
theorem qvN(m:Int):tQ (m:Rat)=tI m:=q8N (by simp)
theorem qBu(n:Nat):tQ (OfNat.ofNat n:Rat)=tN n:=by
 rw[q8N (by simp)]
 simp only[Rat.num_ofNat]
 exact kE n
theorem qaN{m n:Int}(h:m.natAbs≤n.natAbs):nl m≤nl n:=um h
theorem qzW{m n:Nat}(h:m≤n):dl m≤dl n:=um h
theorem qfN(n:Nat):nl (n:Int)=dl n:=rfl
theorem qyE(m n:Nat):dl (m*n)≤dl m+dl n:=qn8 m n
theorem qwn(m n:Int):nl (m-n)≤max (nl m) (nl n)+1:=by
 rw[Int.sub_eq_add_neg]
 have:=qqZ m (-n)
 rwa [qoK] at this
theorem qaH(N:Int)(D:Nat):nl (mkRat N D).num≤nl N∧dl (mkRat N D).den≤dl D:=by
 rw[Rat.num_mkRat,Rat.den_mkRat]
 by_cases h:D=0
 ·rw[if_pos h,if_pos h,h]
  exact⟨qaN (by simp),by decide⟩
 ·rw[if_neg h,if_neg h]
  exact⟨qaN (Int.natAbs_ediv_le_natAbs _ _),qzW (Nat.div_le_self _ _)⟩
theorem qzv(a b:Rat):qn (a*b)≤qn a+qn b:=by
 unfold qn
 rw[Rat.mul_def']
 exact Nat.le_trans (qaH _ _).1 (jW _ _)
theorem qAo(a b:Rat):qd (a*b)≤qd a+qd b:=by
 unfold qd
 rw[Rat.mul_def']
 exact Nat.le_trans (qaH _ _).2 (qyE _ _)
theorem qDU(a b:Rat):qn (a+b)≤max (qn a+qd b) (qn b+qd a)+1:=by
 unfold qn qd
 rw[Rat.add_def']
 have h1:=(qaH (a.num*b.den+b.num*a.den) (a.den*b.den)).1
 have h2:=qqZ (a.num*b.den) (b.num*a.den)
 have h3:=jW a.num b.den
 have h4:=jW b.num a.den
 rw[qfN] at h3 h4
 omega
theorem qDJ(a b:Rat):qd (a+b)≤qd a+qd b:=by
 unfold qd
 rw[Rat.add_def']
 exact Nat.le_trans (qaH _ _).2 (qyE _ _)
theorem qDD(a b:Rat):qn (a-b)≤max (qn a+qd b) (qn b+qd a)+1:=by
 unfold qn qd
 rw[Rat.sub_def']
 have h1:=(qaH (a.num*b.den-b.num*a.den) (a.den*b.den)).1
 have h2:=qwn (a.num*b.den) (b.num*a.den)
 have h3:=jW a.num b.den
 have h4:=jW b.num a.den
 rw[qfN] at h3 h4
 omega
theorem qDj(a b:Rat):qd (a-b)≤qd a+qd b:=by
 unfold qd
 rw[Rat.sub_def']
 exact Nat.le_trans (qaH _ _).2 (qyE _ _)
theorem qDv(a:Rat):qn (-a)=qn a:=by unfold qn;rw[Rat.neg_num,qoK]
theorem qoN(a:Rat):0<qn a:=qoQ _
theorem qx9(a:Rat):0<qd a:=qhi _
theorem qDV{a:Rat}(h:a≠0):qn a⁻¹≤qd a:=by
 unfold qn qd
 rw[Rat.num_inv,←qfN]
 apply qaN
 rw[Int.natAbs_mul,Int.natAbs_sign_of_ne_zero (by rwa [Ne,Rat.num_eq_zero])]
 simp
theorem qDB{a:Rat}(h:a≠0):qd a⁻¹≤qn a:=by
 unfold qn qd
 rw[Rat.den_inv,if_neg (by rwa [Rat.num_eq_zero])]
 exact Nat.le_refl _
theorem qDF(a:Rat){b:Rat}(h:b≠0):qn (a/b)≤qn a+qd b:=by
 rw[Rat.div_def]
 exact Nat.le_trans (qzv _ _) (Nat.add_le_add_left (qDV h) _)
theorem qDw(a:Rat){b:Rat}(h:b≠0):qd (a/b)≤qd a+qn b:=by
 rw[Rat.div_def]
 exact Nat.le_trans (qAo _ _) (Nat.add_le_add_left (qDB h) _)
def sgq(q:Rat):Int:=sgn q.num
theorem qcK{m k:Int}(hk:0<k):sgn (m*k)=sgn m:=by
 unfold sgn
 rcases Int.lt_trichotomy m 0 with h|h|h
 ·have:=Int.mul_neg_of_neg_of_pos h hk
  rw[if_pos h,if_pos this]
 ·subst h;simp
 ·have:=Int.mul_pos h hk
  rw[if_neg (by omega),if_neg (by omega),if_neg (by omega),if_neg (by omega)]
theorem qCu(m:Int):sgn (-m)=-sgn m:=by
 unfold sgn
 rcases Int.lt_trichotomy m 0 with h|h|h
 ·rw[if_pos h,if_neg (by omega),if_neg (by omega)];rfl
 ·subst h;rfl
 ·rw[if_pos (by omega),if_neg (by omega),if_neg (by omega)]
theorem qsd{q:Rat}(h:0<q):sgq q=1:=by
 unfold sgq sgn
 have h1:0≤q.num:=Rat.num_nonneg.2 (Rat.le_of_lt h)
 have h2:q.num≠0:=fun e=>by rw[Rat.num_eq_zero] at e;rw[e] at h;exact Rat.lt_irrefl h
 rw[if_neg (by omega),if_neg h2]
theorem qyQ(q:Rat):sgq (-q)=-sgq q:=by unfold sgq;rw[Rat.neg_num,qCu]
theorem qzg{q:Rat}(h:q<0):sgq q=-1:=by
 have h1:0 < -q:=by grind
 have:=qsd h1
 rw[qyQ] at this
 omega
theorem q6Z(q:Rat):(q<0∧sgq q=-1)∨(q=0∧sgq q=0)∨(0<q∧sgq q=1):=by
 by_cases h1:q<0
 ·exact .inl ⟨h1,qzg h1⟩
 ·by_cases h2:q=0
  ·exact .inr (.inl ⟨h2,by rw[h2];rfl⟩)
  ·exact .inr (.inr ⟨by grind,qsd (by grind)⟩)
theorem qgl(q:Rat):(sgq q≤0)=(q≤0):=by
 rcases q6Z q with⟨h,e⟩|⟨h,e⟩|⟨h,e⟩<;>rw[e]<;>simp<;>grind
theorem qyK(N:Int){D:Nat}(h:D≠0):sgq (mkRat N D)=sgn N:=by
 have hp:(0:Rat)<(D:Rat):=by
  have:0<D:=by omega
  exact Rat.natCast_pos.2 this
 have e:(mkRat N D)*(D:Rat)=(N:Rat):=by
  rw[Rat.mkRat_eq_div]
  exact Rat.div_mul_cancel (by grind)
 have h2:sgn N=sgq (N:Rat):=by unfold sgq;simp
 rw[h2,←e]
 rcases q6Z (mkRat N D) with⟨h,e⟩|⟨h,e⟩|⟨h,e⟩
 ·rw[e,qzg]
  exact(Rat.mul_neg_iff_of_pos_right hp).2 h
 ·rw[e,h,Rat.zero_mul];rfl
 ·rw[e,qsd]
  exact Rat.mul_pos h hp
theorem qCf(a b:Rat):sgq (a-b)=sgn (a.num*b.den-b.num*a.den):=by
 rw[Rat.sub_def',qyK]
 exact Nat.mul_ne_zero a.den_nz b.den_nz
end Go.Eng

namespace Go.Eng
def sP(s:List UInt8):Nat:=s.findIdx (·==47)
def spn(s:List UInt8):List UInt8:=s.take (sP s)
def spd(s:List UInt8):List UInt8:=if sP s<s.length then s.drop (sP s+1) else [49]
theorem qyZ(s:List UInt8):sP s≤s.length:=List.findIdx_le_length
theorem qCL{s:List UInt8}{i:Nat}(h:i<s.length)(h1:s[i]=47)(h2:∀j (hj:j<i),s[j]≠47):sP s=i:=by
 unfold sP
 rw[List.findIdx_eq h]
 exact⟨by simp[h1],fun j hj=>by simp[h2 j hj]⟩
theorem qrd{s:List UInt8}(h:∀c,c∈s→c≠47):sP s=s.length:=by
 unfold sP
 rw[List.findIdx_eq_length]
 intro x hx
 simpa using h x hx
theorem qz8{s t:List UInt8}(h:∀c,c∈s→c≠47):sP (s++47::t)=s.length:=by
 apply qCL (by simp)
 ·simp
 ·intro j hj
  rw[List.getElem_append_left hj]
  exact h _ (List.getElem_mem hj)
theorem qwl(q:Rat):spn (tQ q)=tI q.num:=by
 unfold spn
 by_cases h:q.den=1
 ·rw[q8N h,qrd (qpM _),List.take_length]
 ·rw[q4H h,qz8 (qpM _)];simp
theorem qwB(q:Rat):spd (tQ q)=tN q.den:=by
 unfold spd
 by_cases h:q.den=1
 ·rw[q8N h,qrd (qpM _),if_neg (Nat.lt_irrefl _),h];rfl
 ·rw[q4H h,qz8 (qpM _),if_pos (by simp)];simp
theorem qA0(s:List UInt8)(hl:s.length≤9223372036854775807):(q0C [.s s]).run=some (0,[.i (if sP s<s.length then (sP s:Int) else -1)]):=by
 rw[qpW]
 obtain⟨j,qs,h1,h2⟩:=vr (S:=q2m) (fun k ps=>∃i:Nat,ps=[.s s,.i (i:Int)]∧i+k=s.length∧∀j (hj:j<i) (hj2:j<s.length),s[j]≠47)
  (fun j qs=>(¬sP s<s.length∧j=0∧qs=[])∨(sP s<s.length∧j=1∧qs=[.i (sP s:Int)])) (n:=s.length) (by omega) (fun k ps hk ⟨i,hps,hi,hd⟩=>by
  subst hps
  rw[qmb]
  by_cases hlt:i<s.length
  ·have a1:(i:Int)<qm s:=by unfold qm;omega
   have a2:(0:Int)≤(i:Int):=by omega
   have hs:=qhX hlt
   have hw:qh .i64 (i:Int) 1=((i+1:Nat):Int):=by rw[qN (by omega)];omega
   by_cases b1:s[i]=47
   ·right
    have e:=qCL hlt b1 (fun j hj=>hd j hj (by omega))
    have b2:(s[i].toNat:Int)=47:=by rw[b1];rfl
    refine⟨1,[.i (i:Int)],?_,.inr ⟨by rw[e];exact hlt,rfl,by rw[e]⟩⟩
    simp only[STD,a1,a2,hs,b2,and_self]
   ·left
    have b2:¬(s[i].toNat:Int)=47:=fun h=>b1 (UInt8.toNat_inj.1 (by show s[i].toNat=47;omega))
    refine⟨k-1,[.s s,.i ((i+1:Nat):Int)],by omega,?_,i+1,rfl,by omega,?_⟩
    ·simp only[STD,a1,a2,hs,b2,and_self,hw]
    ·intro j hj hj2
     rcases Nat.lt_or_ge j i with h|h
     ·exact hd j h hj2
     ·obtain rfl:j=i:=by omega
      exact b1
  ·right
   have a1:¬((i:Int)<qm s):=by unfold qm;omega
   refine⟨0,[],?_,.inl ⟨?_,rfl,rfl⟩⟩
   ·simp only[STD,a1]
   ·rw[qrd]
    ·omega
    ·intro c hc
     obtain⟨j,hj,rfl⟩:=List.mem_iff_getElem.1 hc
     exact hd j (by omega) hj) (ps:=[.s s,.i 0]) ⟨0,rfl,by omega,fun j hj=>by omega⟩
 rcases h2 with⟨h2,rfl,rfl⟩|⟨h2,rfl,rfl⟩
 ·rw[if_neg h2];simp only[STD,h1,qw h1]
 ·rw[if_pos h2];simp only[STD,h1,qw h1,show ¬(1=0) by omega]
theorem qvu(s:List UInt8)(hl:s.length≤9223372036854775807):(zS [.s s]).run=some (0,[.s (spn s),.s (spd s)]):=by
 rw[qq8]
 have hs:=qA0 s hl
 have hle:=qyZ s
 unfold spd spn
 by_cases h:sP s<s.length
 ·rw[if_pos h] at hs ⊢
  have a1:¬((sP s:Int)<0):=by omega
  have a2:(sP s:Int)≤qm s:=by unfold qm;omega
  have hw:qh .i64 (sP s:Int) 1=((sP s+1:Nat):Int):=by rw[qN (by omega)];omega
  have a3:((sP s+1:Nat):Int)≤qm s:=by unfold qm;omega
  have e1:qaA s 0 (sP s:Int)=s.take (sP s):=by simp[qaA]
  have e2:qaA s ((sP s+1:Nat):Int) (qm s)=s.drop (sP s+1):=by
   unfold qaA qm
   simp only[Int.toNat_natCast,List.take_length]
  simp only[STD,hs,a1,a2,hw,a3,e1,e2,show (0:Int)≤(sP s:Int) by omega,show (0:Int)≤((sP s+1:Nat):Int) by omega,show (0:Int)≤qm s by unfold qm;omega,Int.le_refl,and_self]
 ·rw[if_neg h] at hs ⊢
  have e:s.take (sP s)=s:=List.take_of_length_le (by omega)
  rw[e]
  simp only[STD,hs,show (-1:Int)<0 by omega]
theorem qBT(q:Rat):(tQ q).length≤qn q+qd q+2:=by
 have h1:=qtw q.num
 unfold qn qd nl dl
 by_cases h:q.den=1
 ·rw[q8N h];omega
 ·rw[q4H h];simp;omega
theorem qry(q:Rat)(hn:qn q≤400000)(hd:qd q≤400000):(zS [.s (tQ q)]).run=some (0,[.s (tI q.num),.s (tI (q.den:Int))]):=by
 have:=qBT q
 rw[qvu _ (by omega),qwl,qwB,kE]
theorem qeP(a b:Rat)(ha:qn a≤400000)(ha':qd a≤400000)(hb:qn b≤400000)(hb':qd b≤400000) :
  (zk [.s (tQ a),.s (tQ b)]).run=some (0,[.r [[.s (tI (a.num*b.den))],[.s (tI (b.num*a.den))],[.s (tI (a.den*b.den))],[.s (tI (a.num*b.num))],[.s (tI (a.den*b.num))]]]):=by
 rw[qme]
 have t:=fun (m n:Int) (h1:nl m≤400000) (h2:nl n≤400000)=>qj4 m n (by omega) (by omega)
 simp only[STD,qry a ha ha',qry b hb hb',t a.num b.den ha hb',t b.num a.den hb ha',t a.den b.den ha' hb',t a.num b.num ha hb,t a.den b.num ha' hb]
theorem q4u(n:Nat):(tN n=[49])=(n=1):=by
 have:tN 1=[49]:=rfl
 rw[←this];exact propext ⟨fun h=>qqo h,fun h=>by rw[h]⟩
theorem qj0(m n:Int)(hn:n≠0)(hm':nl m≤400000)(hn':nl n≤400000):(zz [.s (tI m),.s (tI n)]).run=some (0,[.s (tQ (Rat.divInt m n))]):=by
 rw[qnR]
 have hS:=qgT m n hm' hn'
 have hg0:0<Nat.gcd m.natAbs n.natAbs:=Nat.gcd_pos_of_pos_right _ (by omega)
 have hgn:Nat.gcd m.natAbs n.natAbs≤n.natAbs:=Nat.gcd_le_right _ (by omega)
 have hgl:(tN (Nat.gcd m.natAbs n.natAbs)).length≤400000:=Nat.le_trans (um hgn) hn'
 have hnum:=Rat.num_divInt m n
 have hden:=Rat.den_divInt m n
 rw[if_neg hn] at hden
 have hgc:Int.gcd n m=Nat.gcd m.natAbs n.natAbs:=by unfold Int.gcd;exact Nat.gcd_comm _ _
 rw[hgc] at hnum hden
 obtain⟨k,hk⟩:((Nat.gcd m.natAbs n.natAbs:Nat):Int) ∣ m:=Int.ofNat_dvd_left.2 (Nat.gcd_dvd_left _ _)
 obtain⟨l,hl⟩:((Nat.gcd m.natAbs n.natAbs:Nat):Int) ∣ n:=Int.ofNat_dvd_left.2 (Nat.gcd_dvd_right _ _)
 generalize Nat.gcd m.natAbs n.natAbs=g at *
 generalize Rat.divInt m n=q at *
 have hB:=vt n
 have hm2:k*(g:Int)=m:=by rw[Int.mul_comm];exact hk.symm
 have hn2:l*(g:Int)=n:=by rw[Int.mul_comm];exact hl.symm
 have hql:nl q.num≤400000:=by
  refine Nat.le_trans (qaN ?_) hm'
  rw[hnum]
  refine Nat.le_trans (Int.natAbs_ediv_le_natAbs _ _) ?_
  rw[Int.natAbs_mul,Int.natAbs_sign_of_ne_zero hn];omega
 have hdl:(tN q.den).length≤400000:=by
  refine Nat.le_trans (um ?_) hn'
  rw[hden];exact Nat.div_le_self _ _
 have hil:=qtw q.num
 have hil2:(tN q.num.natAbs).length≤400000:=hql
 have fin:(Tree.br (seq (tI (q.den:Int)) [49]) (Tree.leaf (0,[PV.s (tI q.num)])) (Tree.br (ile (qm (tI q.num)+qm [47]) 140737488355328) (Tree.br (ile (qm (qbC (tI q.num) [47])+qm (tI (q.den:Int))) 140737488355328)
   (Tree.leaf (0,[PV.s (qbC (qbC (tI q.num) [47]) (tI (q.den:Int)))])) Tree.fail) Tree.fail)).run=some (0,[PV.s (tQ q)]):=by
  rw[kE]
  have a1:qm (tI q.num)+qm [47]≤140737488355328:=by unfold qm;simp;omega
  have a2:qm (qbC (tI q.num) [47])+qm (tN q.den)≤140737488355328:=by unfold qm qbC;simp;omega
  by_cases h1:q.den=1
  ·simp only[STD,qS,q4u,h1,q8N h1]
  ·simp only[STD,qS,q4u,h1,q4H h1,a1,a2]
   simp[qbC]
 by_cases hneg:n<0
 ·have hT:=qbb (g:Int) (by simp only[Int.natAbs_natCast];omega)
  rw[kE] at hT
  have e1:fq m (-(g:Int))=q.num:=by
   have:fq ((-k)*(-(g:Int))) (-(g:Int))=-k:=qmN (by omega)
   rw[show (-k)*(-(g:Int))=m by rw[Int.neg_mul_neg];exact hm2] at this
   rw[this,hnum,Int.sign_eq_neg_one_of_neg hneg,←hm2]
   rw[show (-1:Int)*(k*(g:Int))=(-k)*(g:Int) by rw[Int.neg_mul,Int.one_mul,Int.neg_mul]]
   exact(Int.mul_ediv_cancel _ (by omega)).symm
  have e2:fq n (-(g:Int))=(q.den:Int):=by
   have:fq ((-l)*(-(g:Int))) (-(g:Int))=-l:=qmN (by omega)
   rw[show (-l)*(-(g:Int))=n by rw[Int.neg_mul_neg];exact hn2] at this
   rw[this,hden]
   have h3:(n.natAbs:Int)=(-l)*(g:Int):=by rw[Int.neg_mul];omega
   rw[Int.natCast_ediv,h3,Int.mul_ediv_cancel _ (by omega)]
  have P1:=q3E m (-(g:Int)) (by omega) hm' (by rw[qoK];exact hgl)
  have P2:=q3E n (-(g:Int)) (by omega) hn' (by rw[qoK];exact hgl)
  rw[e1] at P1
  rw[e2] at P2
  simp only[STD,hS,hB,hneg,hT,P1,P2] at fin ⊢
  exact fin
 ·have e1:fq m (g:Int)=q.num:=by
   have:fq (k*(g:Int)) (g:Int)=k:=qmN (by omega)
   rw[hm2] at this
   rw[this,hnum,Int.sign_eq_one_of_pos (by omega),Int.one_mul,←hm2]
   exact(Int.mul_ediv_cancel _ (by omega)).symm
  have e2:fq n (g:Int)=(q.den:Int):=by
   have:fq (l*(g:Int)) (g:Int)=l:=qmN (by omega)
   rw[hn2] at this
   rw[this,hden]
   have h3:(n.natAbs:Int)=l*(g:Int):=by omega
   rw[Int.natCast_ediv,h3,Int.mul_ediv_cancel _ (by omega)]
  have P1:=q3E m (g:Int) (by omega) hm' hgl
  have P2:=q3E n (g:Int) (by omega) hn' hgl
  rw[e1,kE] at P1
  rw[e2,kE] at P2
  simp only[STD,hS,hB,hneg,P1,P2] at fin ⊢
  rw[kE] at fin
  exact fin
def sm(K:Nat)(q:Rat):Prop:=qn q≤K∧qd q≤K
theorem quA(a:Rat):(0:Int)<(a.den:Int):=by have:=a.den_nz;omega
theorem q6J{a b:Rat}(ha:sm 100000 a)(hb:sm 100000 b):(yj [.s (tQ a),.s (tQ b)]).run=some (0,[.s (tQ (a+b))]):=by
 rw[qs6]
 obtain⟨h1,h2⟩:=ha
 obtain⟨h3,h4⟩:=hb
 have hc:=qeP a b (by omega) (by omega) (by omega) (by omega)
 simp only[qn,qd] at h1 h2 h3 h4
 have l1:=jW a.num b.den
 have l2:=jW b.num a.den
 have l3:=jW a.den b.den
 rw[qfN] at l1 l2 l3
 rw[qfN] at l3
 have l4:=qqZ (a.num*b.den) (b.num*a.den)
 have hP:=qlI (a.num*b.den) (b.num*a.den) (by omega) (by omega)
 have hL:=qj0 (a.num*b.den+b.num*a.den) (a.den*b.den) (by have:=Int.mul_pos (quA a) (quA b);omega) (by omega) (by omega)
 have e:Rat.divInt (a.num*b.den+b.num*a.den) ((a.den:Int)*(b.den:Int))=a+b:=by
  rw[Rat.add_def',←Rat.divInt_ofNat];simp
 rw[e] at hL
 simp only[STD,hc,cS,wX,qj,List.length_cons,List.length_nil,Int.toNat_zero,List.getD_cons_zero,U.toS,show (1:Int).toNat=1 from rfl,show (2:Int).toNat=2 from rfl,List.getD_cons_succ,hP,hL]
 simp[]
theorem uj{a b:Rat}(ha:sm 100000 a)(hb:sm 100000 b):(qY [.s (tQ a),.s (tQ b)]).run=some (0,[.s (tQ (a-b))]):=by
 rw[qpp]
 obtain⟨h1,h2⟩:=ha
 obtain⟨h3,h4⟩:=hb
 have hc:=qeP a b (by omega) (by omega) (by omega) (by omega)
 simp only[qn,qd] at h1 h2 h3 h4
 have l1:=jW a.num b.den
 have l2:=jW b.num a.den
 have l3:=jW a.den b.den
 rw[qfN] at l1 l2 l3
 rw[qfN] at l3
 have l4:=qwn (a.num*b.den) (b.num*a.den)
 have hP:=q8f (a.num*b.den) (b.num*a.den) (by omega) (by omega)
 have hL:=qj0 (a.num*b.den-b.num*a.den) (a.den*b.den) (by have:=Int.mul_pos (quA a) (quA b);omega) (by omega) (by omega)
 have e:Rat.divInt (a.num*b.den-b.num*a.den) ((a.den:Int)*(b.den:Int))=a-b:=by
  rw[Rat.sub_def',←Rat.divInt_ofNat];simp
 rw[e] at hL
 simp only[STD,hc,cS,wX,qj,List.length_cons,List.length_nil,Int.toNat_zero,List.getD_cons_zero,U.toS,show (1:Int).toNat=1 from rfl,show (2:Int).toNat=2 from rfl,List.getD_cons_succ,hP,hL]
 simp[]
theorem wK{a b:Rat}(ha:sm 100000 a)(hb:sm 100000 b):(qO [.s (tQ a),.s (tQ b)]).run=some (0,[.s (tQ (a*b))]):=by
 rw[qpR]
 obtain⟨h1,h2⟩:=ha
 obtain⟨h3,h4⟩:=hb
 have hc:=qeP a b (by omega) (by omega) (by omega) (by omega)
 simp only[qn,qd] at h1 h2 h3 h4
 have l1:=jW a.num b.num
 have l3:=jW a.den b.den
 rw[qfN,qfN] at l3
 have hL:=qj0 (a.num*b.num) (a.den*b.den) (by have:=Int.mul_pos (quA a) (quA b);omega) (by omega) (by omega)
 have e:Rat.divInt (a.num*b.num) ((a.den:Int)*(b.den:Int))=a*b:=by
  rw[Rat.mul_def',←Rat.divInt_ofNat];simp
 rw[e] at hL
 simp only[STD,hc,cS,wX,qj,List.length_cons,List.length_nil,U.toS,show (3:Int).toNat=3 from rfl,show (2:Int).toNat=2 from rfl,List.getD_cons_succ,List.getD_cons_zero,hL]
 simp[]
theorem qr3{a b:Rat}(hb0:b≠0)(ha:sm 100000 a)(hb:sm 100000 b):(qc7 [.s (tQ a),.s (tQ b)]).run=some (0,[.s (tQ (a/b))]):=by
 rw[qvT]
 obtain⟨h1,h2⟩:=ha
 obtain⟨h3,h4⟩:=hb
 have hc:=qeP a b (by omega) (by omega) (by omega) (by omega)
 simp only[qn,qd] at h1 h2 h3 h4
 have l1:=jW a.num b.den
 have l3:=jW a.den b.num
 rw[qfN] at l1 l3
 have hbn:b.num≠0:=fun h=>hb0 (Rat.num_eq_zero.1 h)
 have hL:=qj0 (a.num*b.den) (a.den*b.num) (by have:=quA a;exact Int.mul_ne_zero (by omega) hbn) (by omega) (by omega)
 have e:Rat.divInt (a.num*b.den) ((a.den:Int)*b.num)=a/b:=by
  rw[Rat.div_def,Rat.inv_def,←Rat.divInt_mul_divInt,Rat.num_divInt_den]
 rw[e] at hL
 simp only[STD,hc,cS,wX,qj,List.length_cons,List.length_nil,U.toS,Int.toNat_zero,show (4:Int).toNat=4 from rfl,List.getD_cons_succ,List.getD_cons_zero,hL]
 simp[]
theorem qrf{a b:Rat}(ha:sm 100000 a)(hb:sm 100000 b):(q7U [.s (tQ a),.s (tQ b)]).run=some (0,[.i (sgq (a-b))]):=by
 rw[qq7]
 obtain⟨h1,h2⟩:=ha
 obtain⟨h3,h4⟩:=hb
 have hc:=qeP a b (by omega) (by omega) (by omega) (by omega)
 simp only[qn,qd] at h1 h2 h3 h4
 have l1:=jW a.num b.den
 have l2:=jW b.num a.den
 rw[qfN] at l1 l2
 have hP:=qdG (a.num*b.den) (b.num*a.den) (by omega) (by omega)
 rw[←qCf] at hP
 simp only[STD,hc,cS,wX,qj,List.length_cons,List.length_nil,U.toS,Int.toNat_zero,show (1:Int).toNat=1 from rfl,List.getD_cons_succ,List.getD_cons_zero,hP]
 simp[]
theorem q6F{a:Rat}(ha:sm 100000 a):(yw [.s (tQ a)]).run=some (0,[.i (sgq a)]):=by
 rw[qp3]
 obtain⟨h1,h2⟩:=ha
 have hP:=qdG a.num 0 (by unfold qn at h1;omega) (by decide)
 rw[Int.sub_zero,show tI 0=[48] from rfl] at hP
 simp only[STD,qry a (by omega) (by omega),hP]
 rfl
theorem qCw(K:Nat):sm (K+1) 0:=⟨by show 1≤K+1;omega,by show 1≤K+1;omega⟩
theorem qbc{a:Rat}(ha:sm 100000 a):(kg [.s (tQ a)]).run=some (0,[.s (tQ (-a))]):=by
 rw[qoZ]
 have h:=uj (a:=0) (b:=a) (qCw 99999) ha
 rw[show tQ 0=[48] from rfl,show (0:Rat)-a=-a by grind] at h
 simp only[STD,h]
def qcX(a b c:Rat):Int:=if 0≤sgq a*(sgq b*sgq c) then (if sgq a=0 then sgq b*sgq c else sgq a) else sgq a*sgq (a*a-b*b*c)
theorem qf0(q:Rat):-1≤sgq q∧sgq q≤1:=by rcases q6Z q with⟨_,e⟩|⟨_,e⟩|⟨_,e⟩<;>rw[e]<;>decide
theorem qEo{x y:Int}(hx:-1≤x∧x≤1)(hy:-1≤y∧y≤1):-1≤x*y∧x*y≤1:=by
 have:=qDs (A:=1) (B:=1) hx.1 hx.2 hy.1 hy.2
 omega
theorem qd2{x y:Int}(hx:-1≤x∧x≤1)(hy:-1≤y∧y≤1):u7 .i64 x y=x*y:=q4G (by have:=qEo hx hy;omega)
theorem qtZ{K L:Nat}{a b:Rat}(ha:sm K a)(hb:sm L b):sm (K+L) (a*b):=
 ⟨Nat.le_trans (qzv a b) (Nat.add_le_add ha.1 hb.1),Nat.le_trans (qAo a b) (Nat.add_le_add ha.2 hb.2)⟩
theorem q1q{K L:Nat}{a:Rat}(ha:sm K a)(h:K≤L):sm L a:=⟨Nat.le_trans ha.1 h,Nat.le_trans ha.2 h⟩
theorem qtE{a b c:Rat}(ha:sm 30000 a)(hb:sm 30000 b)(hc:sm 30000 c):(qal [.s (tQ a),.s (tQ b),.s (tQ c)]).run=some (0,[.i (qcX a b c)]):=by
 rw[qs0]
 have ba:=qf0 a
 have bb:=qf0 b
 have bc:=qf0 c
 have bd:=qf0 (a*a-b*b*c)
 have h1:=wK (q1q ha (by omega)) (q1q ha (by omega))
 have h2:=wK (q1q hb (by omega)) (q1q hb (by omega))
 have hbb:=qtZ hb hb
 have h3:=wK (a:=b*b) (b:=c) (q1q hbb (by omega)) (q1q hc (by omega))
 have h4:=qrf (a:=a*a) (b:=b*b*c) (q1q (qtZ ha ha) (by omega)) (q1q (qtZ hbb hc) (by omega))
 simp only[STD,q6F (q1q ha (show 30000≤100000 by omega)),q6F (q1q hb (show 30000≤100000 by omega)),q6F (q1q hc (show 30000≤100000 by omega)),
  qd2 bb bc,qd2 ba (qEo bb bc),h1,h2,h3,h4,qd2 ba bd]
 unfold qcX
 split
 ·split<;>rfl
 ·rfl
end Go.Eng

namespace Go.Eng
def mv:List Int→Int
 | []=>0
 | x::l=>x+1000000000*mv l
def pB(n:Nat):Int:=1000000000^n
theorem q5c:pB 0=1:=rfl
theorem q9k(n:Nat):pB (n+1)=pB n*1000000000:=Int.pow_succ _ _
theorem qaE:∀n,0<pB n
 | 0=>by decide
 | n+1=>by rw[q9k];have:=qaE n;omega
theorem qE4(m n:Nat):pB (m+n)=pB m*pB n:=Int.pow_add _ _ _
theorem qbf{m n:Nat}(h:m≤n):pB m≤pB n:=by
 obtain⟨k,rfl⟩:∃k,n=m+k:=⟨n-m,by omega⟩
 induction k with
 | zero=>simp
 | succ k ih=>
  have h1:=ih (by omega)
  rw[show m+(k+1)=(m+k)+1 by omega,q9k]
  have:=qaE (m+k)
  omega
def dgs(l:List Int):Prop:=∀x,x∈l→0≤x∧x<1000000000
theorem qwJ:∀(l:List Int) (j:Nat) (h:j<l.length) (y:Int),mv (l.set j y)=mv l+(y-l[j])*pB j
 | [],j,h,_=>by simp at h
 | x::l,0,_,y=>by simp only[List.set_cons_zero,mv,List.getElem_cons_zero,q5c];omega
 | x::l,j+1,h,y=>by
  have ih:=qwJ l j (by simpa using h) y
  simp only[List.set_cons_succ,mv,List.getElem_cons_succ,q9k]
  rw[ih]
  grind
theorem qxI:∀(l:List Int) (n:Nat),dgs l→(∀i,n≤i→l.getD i 0=0)→0≤mv l∧mv l<pB n
 | [],n,_,_=>⟨Int.le_refl _,qaE n⟩
 | x::l,0,hd,hz=>by
  have ih:=qxI l 0 (fun y hy=>hd y (List.mem_cons_of_mem _ hy)) (fun i _=>by have:=hz (i+1) (by omega);simpa using this)
  have hx:x=0:=by simpa using hz 0 (by omega)
  rw[q5c] at ih ⊢
  simp only[mv];omega
 | x::l,n+1,hd,hz=>by
  have ih:=qxI l n (fun y hy=>hd y (List.mem_cons_of_mem _ hy)) (fun i hi=>by have:=hz (i+1) (by omega);simpa using this)
  have hx:=hd x List.mem_cons_self
  rw[q9k]
  simp only[mv]
  generalize pB n=p at *
  omega
theorem qDp:∀(l:List Int) (j:Nat) (h:j<l.length),dgs l→l[j]≠0→pB j≤mv l
 | [],j,h,_,_=>by simp at h
 | x::l,0,_,hd,hx=>by
  have h1:=hd x List.mem_cons_self
  have h2:=(qxI l l.length (fun y hy=>hd y (List.mem_cons_of_mem _ hy)) (fun i hi=>by simp[List.getD_eq_getElem?_getD,hi])).1
  simp only[List.getElem_cons_zero] at hx
  simp only[mv,q5c];omega
 | x::l,j+1,h,hd,hx=>by
  have ih:=qDp l j (by simpa using h) (fun y hy=>hd y (List.mem_cons_of_mem _ hy)) (by simpa using hx)
  have h1:=hd x List.mem_cons_self
  rw[q9k]
  simp only[mv];omega
theorem qwy:∀(s t:List Int),mv (s++t)=mv s+pB s.length*mv t
 | [],t=>by simp[mv,q5c]
 | x::s,t=>by
  simp only[List.cons_append,mv,List.length_cons,q9k]
  rw[qwy s t];grind
theorem qda(n:Nat):mv (List.replicate n 0)=0:=by
 induction n with
 | zero=>rfl
 | succ n ih=>simp[List.replicate_succ,mv,ih]
theorem qbi{l:List Int}{i:Nat}(h:i<l.length):mv (l.drop i)=l[i]+1000000000*mv (l.drop (i+1)):=by
 rw[List.drop_eq_getElem_cons h];rfl
theorem wY{l:List Int}{n i:Nat}(hd:dgs l)(hz:∀i,n≤i→l.getD i 0=0)(hi:n≤i):mv (l.drop i)=0:=by
 have:=qxI (l.drop i) 0 (fun x hx=>hd x (List.mem_of_mem_drop hx)) (fun j _=>by
  have:=hz (i+j) (by omega)
  simpa[List.getD_eq_getElem?_getD] using this)
 rw[q5c] at this
 omega
structure WOK (n:Nat) (l:List Int):Prop where
 len:l.length=232
 le:n≤232
 dig:dgs l
 z:∀i,n≤i→l.getD i 0=0
def nrm(n:Nat)(l:List Int):Prop:=n=0∨l.getD (n-1) 0≠0
theorem WOK.bd{n:Nat}{l:List Int}(h:WOK n l):0≤mv l∧mv l<pB n:=qxI l n h.dig h.z
theorem WOK.lo{n:Nat}{l:List Int}(h:WOK n l)(hn:nrm n l)(h0:n≠0):pB (n-1)≤mv l:=by
 have h1:=h.le
 have h2:=h.len
 rcases hn with hn|hn
 ·exact absurd hn h0
 ·refine qDp l (n-1) (by omega) h.dig ?_
  rwa [vX (by omega)] at hn
theorem qt1(N i:Nat):(List.replicate N (0:Int)).getD i 0=0:=by
 rw[List.getD_eq_getElem?_getD,List.getElem?_replicate];split<;>rfl
theorem qzl(N:Nat):dgs (List.replicate N 0):=fun x hx=>by
 have:=(List.mem_replicate.1 hx).2
 omega
theorem WOK.zero:WOK 0 (List.replicate 232 0):=
 ⟨List.length_replicate,by omega,qzl 232,fun i _=>qt1 232 i⟩
theorem WOK.get{n:Nat}{l:List Int}(h:WOK n l)(i:Nat):0≤l.getD i 0∧l.getD i 0<1000000000:=by
 rcases Nat.lt_or_ge i l.length with hi|hi
 ·rw[vX hi];exact h.dig _ (List.getElem_mem hi)
 ·simp[List.getD_eq_getElem?_getD,hi]
theorem WOK.setW{n:Nat}{l:List Int}(h:WOK n l){j:Nat}{y:Int}(hj:j<232)(hy:0≤y∧y<1000000000):WOK (max n (j+1)) (l.set j y):=by
 have h1:=h.le
 refine⟨by simp[h.len],by omega,fun x hx=>?_,fun i hi=>?_⟩
 ·rcases List.mem_or_eq_of_mem_set hx with hx|rfl
  ·exact h.dig x hx
  ·exact hy
 ·have:=h.z i (by omega)
  rw[List.getD_eq_getElem?_getD,List.getElem?_set_ne (by omega),←List.getD_eq_getElem?_getD]
  exact this
theorem q4A(l:List Int)(i:Nat):cI (rI l) (i:Int) 0=l.getD i 0:=by rw[qCV,Int.toNat_natCast]
theorem qi0(l:List Int)(i:Nat)(v:Int):qcA (rI l) (i:Int) 0 [.i v]=rI (l.set i v):=by rw[qtd,Int.toNat_natCast]
theorem qjp{n:Nat}{l:List Int}(h:WOK n l)(b:Bool):∃m,(qx [.b b,.i (n:Int),.r (rI l)]).run=some (0,[.b b,.i ((m:Nat):Int),.r (rI l)])∧WOK m l∧nrm m l:=by
 rw[qfA]
 have h232:=h.le
 obtain⟨j,qs,h1,rfl,m,rfl,h3,h4⟩:=vr (S:=vK) (fun k ps=>ps=[.b b,.i (k:Int),.r (rI l)]∧WOK k l)
  (fun j qs=>j=0∧∃m:Nat,qs=[.b b,.i (m:Int),.r (rI l)]∧WOK m l∧nrm m l) (n:=n) (by omega) (fun k ps hk ⟨hps,hw⟩=>by
  subst hps
  rw[qdh]
  have hk2:=hw.le
  by_cases h0:k=0
  ·right
   refine⟨0,_,?_,rfl,k,rfl,hw,.inl h0⟩
   simp only[STD,h0]
   rfl
  ·have hs:qv .i64 (k:Int) 1=((k-1:Nat):Int):=by rw[wO (by omega)];omega
   have a1:(0:Int)<(k:Int):=by omega
   have a2:(0:Int)≤((k-1:Nat):Int)∧((k-1:Nat):Int)<232:=by omega
   by_cases hz:l.getD (k-1) 0=0
   ·left
    refine⟨k-1,[.b b,.i ((k-1:Nat):Int),.r (rI l)],by omega,?_,rfl,hw.len,by omega,hw.dig,fun i hi=>?_⟩
    ·simp only[STD,a1,hs,a2,q4A,hz,and_self]
    ·rcases Nat.eq_or_lt_of_le hi with e|e
     ·rw[←e];exact hz
     ·exact hw.z i (by omega)
   ·right
    refine⟨0,[.b b,.i (k:Int),.r (rI l)],?_,rfl,k,rfl,hw,.inr hz⟩
    simp only[STD,a1,hs,a2,q4A,hz,and_self]) (ps:=[.b b,.i (n:Int),.r (rI l)]) ⟨rfl,h⟩
 exact⟨m,by simp only[STD,h1],h3,h4⟩
theorem qDr(s:Int):∃q r:Int,s.tdiv 1000000000=q∧s=q*1000000000+r∧(0≤s→0≤r)∧(s≤0→r≤0)∧-1000000000<r∧r<1000000000:=by
 obtain⟨h1,h2,h3,h4⟩:=qkN s (show (1000000000:Int)≠0 by decide)
 refine⟨_,q5N s 1000000000,rfl,by omega,h3,h4,by omega,by omega⟩
theorem qxp{f up rest:Int}{i n j:Nat}{l ly:List Int}{bx b2:Bool}{ny:Nat}{S:Int}(hj:((j:Nat):Int)=qh .i64 (i:Int) up)(hj2:j<232)(hw:WOK n l)(hin:i<233)
  (hS:S=if i<ny then l.getD j 0+rest+f*ly.getD i 0 else l.getD j 0+rest) (hr:-1000000000≤rest∧rest≤1000000000) (hfy:-999999999999999999≤f*ly.getD i 0∧f*ly.getD i 0≤999999999999999999) (hny:ny≤232)
  (hgo:i<ny∨rest≠0) :
  ∃q s:Int,S=q*1000000000+s∧0≤s∧s<1000000000 ∧
   (vB [.i f,.i up,.i rest,.i (i:Int),.b bx,.i (n:Int),.r (rI l),.b b2,.i (ny:Int),.r (rI ly)]).run=some (0,[.i f,.i up,.i q,.i ((i+1:Nat):Int),.b bx,.i ((max n (j+1):Nat):Int),.r (rI (l.set j s)),.b b2,.i (ny:Int),.r (rI ly)]):=by
 have hg:=hw.get j
 obtain⟨q,r,e1,e2,e3,e4,e5,e6⟩:=qDr S
 have hSb:-1000000000999999999≤S∧S≤1000000001999999998:=by rw[hS];split<;>omega
 have w1:jo .i64 S 1000000000=q:=by
  unfold jo
  rw[e1]
  unfold IntKind.wrap
  simp[IntKind.signed,IntKind.bits];omega
 have w2:u7 .i64 q 1000000000=q*1000000000:=q4G (by omega)
 have w3:qv .i64 S (q*1000000000)=r:=by rw[wO (by omega)];omega
 have w4:qh .i64 (l.getD j 0) rest=l.getD j 0+rest:=qN (by omega)
 have w5:qh .i64 (i:Int) 1=((i+1:Nat):Int):=by rw[qN (by omega)];omega
 have w6:qh .i64 (j:Int) 1=((j+1:Nat):Int):=by rw[qN (by omega)];omega
 have w7:qeF (n:Int) ((j+1:Nat):Int)=((max n (j+1):Nat):Int):=qrX _ _
 have a1:(0:Int)≤(j:Int)∧(j:Int)<232:=by omega
 have hw8:r<0→qh .i64 r 1000000000=r+1000000000:=fun _=>qN (by omega)
 have hw9:r<0→qv .i64 q 1=q-1:=fun _=>wO (by omega)
 rw[q6U]
 by_cases hi:i<ny
 ·rw[if_pos hi] at hS
  have a2:(i:Int)<(ny:Int):=by omega
  have a3:(0:Int)≤(i:Int)∧(i:Int)<232:=by omega
  have w10:u7 .i64 f (ly.getD i 0)=f*ly.getD i 0:=q4G (by omega)
  have w11:qh .i64 (l.getD j 0+rest) (f*ly.getD i 0)=S:=by rw[qN (by omega),hS]
  by_cases hneg:r<0
  ·refine⟨q-1,r+1000000000,by omega,by omega,by omega,?_⟩
   simp only[STD,a2,←hj,a1,a3,q4A,w4,w10,w11,w1,w2,w3,hneg,hw8 hneg,hw9 hneg,w5,w6,w7,qi0,and_self]
  ·refine⟨q,r,by omega,by omega,by omega,?_⟩
   simp only[STD,a2,←hj,a1,a3,q4A,w4,w10,w11,w1,w2,w3,hneg,w5,w6,w7,qi0,and_self]
 ·rw[if_neg hi] at hS
  have hr0:rest≠0:=hgo.resolve_left hi
  have a2:¬(i:Int)<(ny:Int):=by omega
  rw[←hS] at w4
  by_cases hneg:r<0
  ·refine⟨q-1,r+1000000000,by omega,by omega,by omega,?_⟩
   simp only[STD,a2,hr0,←hj,a1,q4A,w4,w1,w2,w3,hneg,hw8 hneg,hw9 hneg,w5,w6,w7,qi0,and_self]
  ·refine⟨q,r,by omega,by omega,by omega,?_⟩
   simp only[STD,a2,hr0,←hj,a1,q4A,w4,w1,w2,w3,hneg,w5,w6,w7,qi0,and_self]
theorem qoL{f:Int}{up nx ny:Nat}{lx ly:List Int}(hx:WOK nx lx)(hy:WOK ny ly)(hf:-999999999≤f∧f≤999999999)(hup:ny+up≤232){T:Int}(hT:T=mv lx+f*mv ly*pB up)(h0:0≤T)(h1:T<pB 232)(bx b2:Bool) :
  ∃(n:Nat) (l:List Int),(qF [.i f,.i (up:Int),.b bx,.i (nx:Int),.r (rI lx),.b b2,.i (ny:Int),.r (rI ly)]).run=some (0,[.b bx,.i (n:Int),.r (rI l),.b b2,.i (ny:Int),.r (rI ly)])∧WOK n l∧nrm n l∧mv l=T:=by
 rw[qig]
 have hny:=hy.le
 obtain⟨j,qs,g1,rfl,n,l,rfl,g3,g4⟩:=vr (S:=vB) (fun k ps=>∃(i n:Nat) (rest:Int) (l:List Int),ps=[.i f,.i (up:Int),.i rest,.i (i:Int),.b bx,.i (n:Int),.r (rI l),.b b2,.i (ny:Int),.r (rI ly)] ∧
   i+k=300∧i≤232∧WOK n l∧-1000000000≤rest∧rest≤1000000000∧mv l+rest*pB (i+up)+f*mv (ly.drop i)*pB (i+up)=T)
  (fun j qs=>j=0∧∃(n:Nat) (l:List Int),qs=[.b bx,.i (n:Int),.r (rI l),.b b2,.i (ny:Int),.r (rI ly)]∧WOK n l∧mv l=T) (n:=300) (by omega) (fun k ps hk ⟨i,n,rest,l,hps,hik,hi,hw,hr1,hr2,hv⟩=>by
  subst hps
  have hg:=hy.get i
  have hfy:=qDs (A:=999999999) (B:=999999999) hf.1 hf.2 (show -(999999999:Int)≤ly.getD i 0 by omega) (show ly.getD i 0≤999999999 by omega)
  have hbd:=hw.bd
  have hn232:=hw.le
  by_cases hgo:i<ny∨rest≠0
  ·left
   have hj:i+up<232:=by
    rcases Nat.lt_or_ge i ny with h|h
    ·omega
    ·rcases Nat.lt_or_ge (i+up) 232 with h2|h2
     ·exact h2
     ·exfalso
      have hr0:=hgo.resolve_left (by omega)
      rw[wY hy.dig hy.z h] at hv
      have hP:=qbf h2
      have hlt:=qbf hn232
      simp only[Int.mul_zero,Int.zero_mul,Int.add_zero] at hv
      generalize pB (i+up)=P at *
      rcases Int.lt_or_lt_of_ne hr0 with h3|h3
      ·have:rest*P≤-1*P:=Int.mul_le_mul_of_nonneg_right (by omega) (by have:=qaE 232;omega)
       omega
      ·have:1*P≤rest*P:=Int.mul_le_mul_of_nonneg_right (by omega) (by have:=qaE 232;omega)
       omega
   have hjw:(((i+up:Nat)):Int)=qh .i64 (i:Int) (up:Int):=by rw[qN (by omega)];omega
   obtain⟨q,s,s1,s2,s3,s4⟩:=qxp (bx:=bx) (b2:=b2) (f:=f) (ly:=ly) hjw hj hw (by omega) rfl ⟨hr1,hr2⟩ (by omega) hny hgo
   refine⟨k-1,_,by omega,s4,i+1,_,q,_,rfl,by omega,by omega,hw.setW hj ⟨s2,s3⟩,?_,?_,?_⟩
   ·have hgl:=hw.get (i+up)
    split at s1<;>omega
   ·have hgl:=hw.get (i+up)
    split at s1<;>omega
   ·have hjl:i+up<l.length:=by rw[hw.len];exact hj
    rw[qwJ l (i+up) hjl,←hv,show i+1+up=(i+up)+1 by omega,q9k]
    rw[vX hjl] at s1
    have hil:i<ly.length:=by rw[hy.len];omega
    rw[qbi hil]
    rw[vX hil] at s1
    generalize pB (i+up)=P at *
    generalize l[i+up]=d at *
    by_cases hiny:i<ny
    ·rw[if_pos hiny] at s1
     generalize ly[i]=y at *
     generalize mv (ly.drop (i+1))=m at *
     grind
    ·rw[if_neg hiny] at s1
     have z1:ly[i]=0:=by rw[←vX hil];exact hy.z i (by omega)
     rw[z1,wY hy.dig hy.z (show ny≤i+1 by omega)]
     grind
  ·right
   have c1:¬i<ny:=fun h=>hgo (.inl h)
   have c2:rest=0:=Decidable.byContradiction fun h=>hgo (.inr h)
   refine⟨0,[.b bx,.i (n:Int),.r (rI l),.b b2,.i (ny:Int),.r (rI ly)],?_,rfl,n,l,rfl,hw,?_⟩
   ·rw[q6U]
    have a2:¬(i:Int)<(ny:Int):=by omega
    simp only[STD,a2,c2]
   ·rw[wY hy.dig hy.z (by omega),c2] at hv
    simp only[Int.mul_zero,Int.zero_mul,Int.add_zero] at hv
    exact hv) (ps:=[.i f,.i (up:Int),.i 0,.i 0,.b bx,.i (nx:Int),.r (rI lx),.b b2,.i (ny:Int),.r (rI ly)])
  ⟨0,nx,0,lx,rfl,by omega,by omega,hx,by omega,by omega,by simp[hT]⟩
 obtain⟨m,t1,t2,t3⟩:=qjp g3 bx
 exact⟨m,l,by simp only[STD,g1,t1],t2,t3,g4⟩
end Go.Eng

