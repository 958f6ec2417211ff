/- Texts of the proof, merged: what the code computes, and plain laws. No statement stands here. -/
import Derived.OpenShut
import Derived.Deep.Slices
import Derived.SizedLaws
import Derived.Below
import Derived.Lib.LaidTab
import Derived.Test.YtehgceikghodkaaGreatDoorS3
namespace Go.Eng
theorem qd3(x0:List UInt8)(x1:List UInt8):wL [.s x0,.s x1]=(let r0:TR:=(vU [(.s x0),(.s x1)])
 .br (okR r0) (.br (ile 0 (gI r0 0)) (.br (q6E (gI r0 0) (qt x0)) (.br (q6E 0 (gI r0 0)) (.br (q6E (qt x0) (qt x0)) (.br (q6E (qk .i64 (gI r0 0) (qt x1)) (qt x0)) (.leaf (0,[(.s (qds x0 0 (gI r0 0))),(.s (qds x0 (qk .i64 (gI r0 0) (qt x1)) (qt x0))),(.b true)])) .fail) .fail) .fail) .fail) (.leaf (0,[(.s x0),(.s []),(.b false)]))) .fail):=by kernel_rfl
theorem quf(x0:List UInt8)(x1:List UInt8):q6R [.s x0,.s x1]=(let r0:TR:=(wL [(.s x0),(.s x1)])
 .br (okR r0) (.leaf (0,[(.s (gS r0 0)),(.s (gS r0 1)),(.b (gB r0 2))])) .fail):=by kernel_rfl
theorem qxS(x0:List UInt8):qT [.s x0]=(let r0:TR:=(q6R [(.s x0),(.s [47])])
 .br (okR r0) (.br (not (gB r0 2)) (.leaf (0,[(.s (gS r0 0)),(.s [49]),(.b (gB r0 2))])) (.leaf (0,[(.s (gS r0 0)),(.s (gS r0 1)),(.b (gB r0 2))]))) .fail):=by kernel_rfl
theorem q76(x0:List UInt8)(x1:List UInt8):qI [.s x0,.s x1]=(.br (ile (qt x1) (qt x0)) (.br (q6E (qt x1) (qt x0)) (.br (q6E 0 (qt x1)) (.leaf (0,[(.b (seq (qds x0 0 (qt x1)) x1))])) .fail) .fail) (.leaf (0,[(.b false)]))):=by kernel_rfl
theorem q6B(x0:List UInt8)(x1:List UInt8):zf [.s x0,.s x1]=(let r0:TR:=(qI [(.s x0),(.s x1)])
 .br (okR r0) (.br (gB r0 0) (.br (q6E (qt x0) (qt x0)) (.br (q6E (qt x1) (qt x0)) (.leaf (0,[(.s (qds x0 (qt x1) (qt x0)))])) .fail) .fail) (.leaf (0,[(.s x0)]))) .fail):=by kernel_rfl
theorem qjo(x0:List UInt8)(x1:List UInt8):qV [.s x0,.s x1]=(let r0:TR:=(zf [(.s x0),(.s x1)])
 .br (okR r0) (.leaf (0,[(.s (gS r0 0))])) .fail):=by kernel_rfl
theorem quN(x0:List UInt8):qQ [.s x0]=(let r0:TR:=(qV [(.s x0),(.s [45])])
 .br (okR r0) (.br (seq (gS r0 0) []) (.leaf (0,[(.i 3)])) (let r1:TR:=(q8S [(.s (gS r0 0)),(.s [48,49,50,51,52,53,54,55,56,57])])
 .br (okR r1) (.br (not (seq (gS r1 0) [])) (.leaf (0,[(.i 3)])) (.br (inb 0 (qt (gS r0 0))) (.br (ieq (sat (gS r0 0) 0) 48) (.br (not (seq x0 [48])) (.leaf (0,[(.i 3)])) (.br (ilt 1024 (qt (gS r0 0))) (.leaf (0,[(.i 11)])) (.leaf (0,[(.i 0)])))) (.br (ilt 1024 (qt (gS r0 0))) (.leaf (0,[(.i 11)])) (.leaf (0,[(.i 0)])))) .fail)) .fail)) .fail):=by kernel_rfl
theorem qkX(y0:R)(y1:Int)(y2:Int):q6N [.r y0,.i y1,.i y2]=(.br (ilt y2 y1) (.br (inb y2 (qh y0)) (let r0:TR:=(qQ [(.s (cS y0 y2 0))])
 .br (okR r0) (.br (ine (gI r0 0) 0) (.leaf (2,[(.i (gI r0 0))])) (.leaf (0,[(.r y0),(.i y1),(.i (qk .i64 y2 1))]))) .fail) .fail) (.leaf (1,[]))):=by kernel_rfl
theorem qyK(x0:R):zX [.r x0]=(let r0:TR:=(qf q6N [(.r x0),(.i (qh x0)),(.i 0)])
 .br (okR r0) (.br (jIs r0 0) (.leaf (0,[(.i 0)])) (.leaf (0,[(.i (gI r0 0))]))) .fail):=by kernel_rfl
theorem qx5(x0:List UInt8):uz [.s x0]=(.br (seq x0 [48]) (.leaf (0,[(.i 0)])) (.br (inb 0 (qt x0)) (.br (ieq (sat x0 0) 45) (.leaf (0,[(.i (-1))])) (.leaf (0,[(.i 1)]))) .fail)):=by kernel_rfl
theorem quu(x0:List UInt8)(x1:List UInt8):q7V [.s x0,.s x1]=(.br (ine (qt x0) (qt x1)) (.br (ilt (qt x0) (qt x1)) (.leaf (0,[(.i (-1))])) (.leaf (0,[(.i 1)]))) (let r0:TR:=(q4r [(.s x0),(.s x1)])
 .br (okR r0) (.leaf (0,[(.i (gI r0 0))])) .fail)):=by kernel_rfl
theorem qqP(x0:List UInt8)(x1:List UInt8):q3r [.s x0,.s x1]=(let r0:TR:=(zX [(.r [[(.s x0)],[(.s x1)]])])
 .br (okR r0) (.br (ine (gI r0 0) 0) (.leaf (0,[(.i 0),(.i (gI r0 0))])) (let r1:TR:=(uz [(.s x0)])
 .br (okR r1) (let r2:TR:=(uz [(.s x1)])
 .br (okR r2) (.br (ilt (gI r1 0) (gI r2 0)) (.leaf (0,[(.i (-1)),(.i 0)])) (.br (okR r2) (.br (ilt (gI r2 0) (gI r1 0)) (.leaf (0,[(.i 1),(.i 0)])) (let r3:TR:=(qV [(.s x0),(.s [45])])
 .br (okR r3) (let r4:TR:=(qV [(.s x1),(.s [45])])
 .br (okR r4) (let r5:TR:=(q7V [(.s (gS r3 0)),(.s (gS r4 0))])
 .br (okR r5) (.leaf (0,[(.i (ux .i64 (gI r1 0) (gI r5 0))),(.i 0)])) .fail) .fail) .fail)) .fail)) .fail) .fail)) .fail):=by kernel_rfl
theorem qh4(y0:Bool)(y1:Int)(y2:R):jn [.b y0,.i y1,.r y2]=(.br (ilt 0 y1) (.br (inb (qA .i64 y1 1) 232) (.br (inb (qA .i64 y1 1) 232) (.br (ieq (cI y2 (qA .i64 y1 1) 0) 0) (.leaf (0,[(.b y0),(.i (qA .i64 y1 1)),(.r y2)])) (.leaf (1,[(.b y0),(.i y1),(.r y2)]))) .fail) .fail) (.leaf (1,[(.b y0),(.i y1),(.r y2)]))):=by kernel_rfl
theorem qjj(x0:Bool)(x1:Int)(x2:R):qC [.b x0,.i x1,.r x2]=(let r0:TR:=(qf jn [(.b x0),(.i x1),(.r x2)])
 .br (okR r0) (.leaf (0,[(.b (gB r0 0)),(.i (gI r0 1)),(.r (gR r0 2))])) .fail):=by kernel_rfl
theorem qtu(y0:List UInt8)(y1:Bool)(y2:Int)(y3:R):q5l [.s y0,.b y1,.i y2,.r y3]=(.br (ilt 0 (qt y0)) (.br (q6E (qt y0) (qt y0)) (.br (q6E (qi9 0 (qA .i64 (qt y0) 9)) (qt y0)) (let r0:TR:=(vX [(.s (qds y0 (qi9 0 (qA .i64 (qt y0) 9)) (qt y0)))])
 .br (okR r0) (.br (inb y2 232) (.br (inb y2 232) (.br (q6E (qi9 0 (qA .i64 (qt y0) 9)) (qt y0)) (.br (q6E 0 (qi9 0 (qA .i64 (qt y0) 9))) (.leaf (0,[(.s (qds y0 0 (qi9 0 (qA .i64 (qt y0) 9)))),(.b y1),(.i (qk .i64 y2 1)),(.r (q6D y3 y2 0 [(.i (gI r0 0))]))])) .fail) .fail) .fail) .fail) .fail) .fail) .fail) (.leaf (1,[(.b y1),(.i y2),(.r y3)]))):=by kernel_rfl
theorem qx3(x0:List UInt8):zz [.s x0]=(.br (inb 0 (qt x0)) (let r0:TR:=(qV [(.s x0),(.s [45])])
 .br (okR r0) (let r1:TR:=(qf q5l [(.s (gS r0 0)),(.b (ieq (sat x0 0) 45)),(.i 0),(.r (q4U 232 [(.i 0)]))])
 .br (okR r1) (let r2:TR:=(qC [(.b (gB r1 0)),(.i (gI r1 1)),(.r (gR r1 2))])
 .br (okR r2) (.leaf (0,[(.b (gB r2 0)),(.i (gI r2 1)),(.r (gR r2 2))])) .fail) .fail) .fail) .fail):=by kernel_rfl
theorem qzK(x0:Int):zt [.i x0]=(.br (okR (q59 [(.i x0)])) (.leaf (0,[(.s (gS (q59 [(.i x0)]) 0))])) .fail):=by kernel_rfl
theorem qi3(y0:Int)(y1:Bool)(y2:Int)(y3:R)(y4:Bool)(y5:Int)(y6:R):jU [.i y0,.b y1,.i y2,.r y3,.b y4,.i y5,.r y6]=(.br (ile 0 y0) (.br (inb y0 232) (.br (inb y0 232) (.br (inb y0 232) (.br (inb y0 232) (.br (ine (cI y3 y0 0) (cI y6 y0 0)) (.br (inb y0 232) (.br (inb y0 232) (.br (inb y0 232) (.br (inb y0 232) (.leaf (2,[(.i (qA .i64 (cI y3 y0 0) (cI y6 y0 0))),(.b y1),(.i y2),(.r y3),(.b y4),(.i y5),(.r y6)])) .fail) .fail) .fail) .fail) (.leaf (0,[(.i (qA .i64 y0 1)),(.b y1),(.i y2),(.r y3),(.b y4),(.i y5),(.r y6)]))) .fail) .fail) .fail) .fail) (.leaf (1,[(.b y1),(.i y2),(.r y3),(.b y4),(.i y5),(.r y6)]))):=by kernel_rfl
theorem qke(x0:Bool)(x1:Int)(x2:R)(x3:Bool)(x4:Int)(x5:R):zA [.b x0,.i x1,.r x2,.b x3,.i x4,.r x5]=(.br (ine x1 x4) (.leaf (0,[(.i (qA .i64 x1 x4)),(.b x0),(.i x1),(.r x2),(.b x3),(.i x4),(.r x5)])) (let r0:TR:=(qf jU [(.i (qA .i64 x1 1)),(.b x0),(.i x1),(.r x2),(.b x3),(.i x4),(.r x5)])
 .br (okR r0) (.br (jIs r0 0) (.leaf (0,[(.i 0),(.b (gB r0 0)),(.i (gI r0 1)),(.r (gR r0 2)),(.b (gB r0 3)),(.i (gI r0 4)),(.r (gR r0 5))])) (.leaf (0,[(.i (gI r0 0)),(.b (gB r0 1)),(.i (gI r0 2)),(.r (gR r0 3)),(.b (gB r0 4)),(.i (gI r0 5)),(.r (gR r0 6))]))) .fail)):=by kernel_rfl
theorem qpd(x0:Bool)(x1:Int)(x2:R)(x3:Bool)(x4:Int)(x5:R):yS [.b x0,.i x1,.r x2,.b x3,.i x4,.r x5]=(.br (ilt x4 0) (.br (ilt (qA .i64 x4 1) 0) (.br (ilt (qA .i64 x4 1) 0) (.br (ilt 1 x4) (.leaf (0,[(.i 1),(.b x0),(.i x1),(.r x2),(.b x3),(.i x4),(.r x5)])) .fail) (.br (ile x4 (qA .i64 x4 1)) (.br (ilt 1 x4) (.leaf (0,[(.i 1),(.b x0),(.i x1),(.r x2),(.b x3),(.i x4),(.r x5)])) .fail) (.br (inb (qA .i64 x4 1) 232) (.br (inb (qA .i64 x4 1) 232) (.br (ilt 1 x4) (.br (ine (qk .i64 (cI x5 (qA .i64 x4 1) 0) 1) 0) (.br (ilt 0 (yi .i64 0 (qk .i64 (cI x5 (qA .i64 x4 1) 0) 1))) (.leaf (0,[(.i (qcp (yi .i64 0 (qk .i64 (cI x5 (qA .i64 x4 1) 0) 1)) 999999999)),(.b x0),(.i x1),(.r x2),(.b x3),(.i x4),(.r x5)])) (.leaf (0,[(.i 1),(.b x0),(.i x1),(.r x2),(.b x3),(.i x4),(.r x5)]))) .fail) (.br (ine (cI x5 (qA .i64 x4 1) 0) 0) (.br (ilt 0 (yi .i64 0 (cI x5 (qA .i64 x4 1) 0))) (.leaf (0,[(.i (qcp (yi .i64 0 (cI x5 (qA .i64 x4 1) 0)) 999999999)),(.b x0),(.i x1),(.r x2),(.b x3),(.i x4),(.r x5)])) (.leaf (0,[(.i 1),(.b x0),(.i x1),(.r x2),(.b x3),(.i x4),(.r x5)]))) .fail)) .fail) .fail))) (.br (ile x1 (qA .i64 x4 1)) (.br (ilt (qA .i64 x4 1) 0) (.br (ilt 1 x4) (.leaf (0,[(.i 1),(.b x0),(.i x1),(.r x2),(.b x3),(.i x4),(.r x5)])) .fail) (.br (ile x4 (qA .i64 x4 1)) (.br (ilt 1 x4) (.leaf (0,[(.i 1),(.b x0),(.i x1),(.r x2),(.b x3),(.i x4),(.r x5)])) .fail) (.br (inb (qA .i64 x4 1) 232) (.br (inb (qA .i64 x4 1) 232) (.br (ilt 1 x4) (.br (ine (qk .i64 (cI x5 (qA .i64 x4 1) 0) 1) 0) (.br (ilt 0 (yi .i64 0 (qk .i64 (cI x5 (qA .i64 x4 1) 0) 1))) (.leaf (0,[(.i (qcp (yi .i64 0 (qk .i64 (cI x5 (qA .i64 x4 1) 0) 1)) 999999999)),(.b x0),(.i x1),(.r x2),(.b x3),(.i x4),(.r x5)])) (.leaf (0,[(.i 1),(.b x0),(.i x1),(.r x2),(.b x3),(.i x4),(.r x5)]))) .fail) (.br (ine (cI x5 (qA .i64 x4 1) 0) 0) (.br (ilt 0 (yi .i64 0 (cI x5 (qA .i64 x4 1) 0))) (.leaf (0,[(.i (qcp (yi .i64 0 (cI x5 (qA .i64 x4 1) 0)) 999999999)),(.b x0),(.i x1),(.r x2),(.b x3),(.i x4),(.r x5)])) (.leaf (0,[(.i 1),(.b x0),(.i x1),(.r x2),(.b x3),(.i x4),(.r x5)]))) .fail)) .fail) .fail))) (.br (inb (qA .i64 x4 1) 232) (.br (inb (qA .i64 x4 1) 232) (.br (ilt (qA .i64 x4 1) 0) (.br (ilt 1 x4) (.br (ilt 0 (yi .i64 (qk .i64 0 (cI x2 (qA .i64 x4 1) 0)) 1)) (.leaf (0,[(.i (qcp (yi .i64 (qk .i64 0 (cI x2 (qA .i64 x4 1) 0)) 1) 999999999)),(.b x0),(.i x1),(.r x2),(.b x3),(.i x4),(.r x5)])) (.leaf (0,[(.i 1),(.b x0),(.i x1),(.r x2),(.b x3),(.i x4),(.r x5)]))) .fail) (.br (ile x4 (qA .i64 x4 1)) (.br (ilt 1 x4) (.br (ilt 0 (yi .i64 (qk .i64 0 (cI x2 (qA .i64 x4 1) 0)) 1)) (.leaf (0,[(.i (qcp (yi .i64 (qk .i64 0 (cI x2 (qA .i64 x4 1) 0)) 1) 999999999)),(.b x0),(.i x1),(.r x2),(.b x3),(.i x4),(.r x5)])) (.leaf (0,[(.i 1),(.b x0),(.i x1),(.r x2),(.b x3),(.i x4),(.r x5)]))) .fail) (.br (inb (qA .i64 x4 1) 232) (.br (inb (qA .i64 x4 1) 232) (.br (ilt 1 x4) (.br (ine (qk .i64 (cI x5 (qA .i64 x4 1) 0) 1) 0) (.br (ilt 0 (yi .i64 (qk .i64 0 (cI x2 (qA .i64 x4 1) 0)) (qk .i64 (cI x5 (qA .i64 x4 1) 0) 1))) (.leaf (0,[(.i (qcp (yi .i64 (qk .i64 0 (cI x2 (qA .i64 x4 1) 0)) (qk .i64 (cI x5 (qA .i64 x4 1) 0) 1)) 999999999)),(.b x0),(.i x1),(.r x2),(.b x3),(.i x4),(.r x5)])) (.leaf (0,[(.i 1),(.b x0),(.i x1),(.r x2),(.b x3),(.i x4),(.r x5)]))) .fail) (.br (ine (cI x5 (qA .i64 x4 1) 0) 0) (.br (ilt 0 (yi .i64 (qk .i64 0 (cI x2 (qA .i64 x4 1) 0)) (cI x5 (qA .i64 x4 1) 0))) (.leaf (0,[(.i (qcp (yi .i64 (qk .i64 0 (cI x2 (qA .i64 x4 1) 0)) (cI x5 (qA .i64 x4 1) 0)) 999999999)),(.b x0),(.i x1),(.r x2),(.b x3),(.i x4),(.r x5)])) (.leaf (0,[(.i 1),(.b x0),(.i x1),(.r x2),(.b x3),(.i x4),(.r x5)]))) .fail)) .fail) .fail))) .fail) .fail))) (.br (ile x1 x4) (.br (ilt (qA .i64 x4 1) 0) (.br (ilt (qA .i64 x4 1) 0) (.br (ilt 1 x4) (.leaf (0,[(.i 1),(.b x0),(.i x1),(.r x2),(.b x3),(.i x4),(.r x5)])) .fail) (.br (ile x4 (qA .i64 x4 1)) (.br (ilt 1 x4) (.leaf (0,[(.i 1),(.b x0),(.i x1),(.r x2),(.b x3),(.i x4),(.r x5)])) .fail) (.br (inb (qA .i64 x4 1) 232) (.br (inb (qA .i64 x4 1) 232) (.br (ilt 1 x4) (.br (ine (qk .i64 (cI x5 (qA .i64 x4 1) 0) 1) 0) (.br (ilt 0 (yi .i64 0 (qk .i64 (cI x5 (qA .i64 x4 1) 0) 1))) (.leaf (0,[(.i (qcp (yi .i64 0 (qk .i64 (cI x5 (qA .i64 x4 1) 0) 1)) 999999999)),(.b x0),(.i x1),(.r x2),(.b x3),(.i x4),(.r x5)])) (.leaf (0,[(.i 1),(.b x0),(.i x1),(.r x2),(.b x3),(.i x4),(.r x5)]))) .fail) (.br (ine (cI x5 (qA .i64 x4 1) 0) 0) (.br (ilt 0 (yi .i64 0 (cI x5 (qA .i64 x4 1) 0))) (.leaf (0,[(.i (qcp (yi .i64 0 (cI x5 (qA .i64 x4 1) 0)) 999999999)),(.b x0),(.i x1),(.r x2),(.b x3),(.i x4),(.r x5)])) (.leaf (0,[(.i 1),(.b x0),(.i x1),(.r x2),(.b x3),(.i x4),(.r x5)]))) .fail)) .fail) .fail))) (.br (ile x1 (qA .i64 x4 1)) (.br (ilt (qA .i64 x4 1) 0) (.br (ilt 1 x4) (.leaf (0,[(.i 1),(.b x0),(.i x1),(.r x2),(.b x3),(.i x4),(.r x5)])) .fail) (.br (ile x4 (qA .i64 x4 1)) (.br (ilt 1 x4) (.leaf (0,[(.i 1),(.b x0),(.i x1),(.r x2),(.b x3),(.i x4),(.r x5)])) .fail) (.br (inb (qA .i64 x4 1) 232) (.br (inb (qA .i64 x4 1) 232) (.br (ilt 1 x4) (.br (ine (qk .i64 (cI x5 (qA .i64 x4 1) 0) 1) 0) (.br (ilt 0 (yi .i64 0 (qk .i64 (cI x5 (qA .i64 x4 1) 0) 1))) (.leaf (0,[(.i (qcp (yi .i64 0 (qk .i64 (cI x5 (qA .i64 x4 1) 0) 1)) 999999999)),(.b x0),(.i x1),(.r x2),(.b x3),(.i x4),(.r x5)])) (.leaf (0,[(.i 1),(.b x0),(.i x1),(.r x2),(.b x3),(.i x4),(.r x5)]))) .fail) (.br (ine (cI x5 (qA .i64 x4 1) 0) 0) (.br (ilt 0 (yi .i64 0 (cI x5 (qA .i64 x4 1) 0))) (.leaf (0,[(.i (qcp (yi .i64 0 (cI x5 (qA .i64 x4 1) 0)) 999999999)),(.b x0),(.i x1),(.r x2),(.b x3),(.i x4),(.r x5)])) (.leaf (0,[(.i 1),(.b x0),(.i x1),(.r x2),(.b x3),(.i x4),(.r x5)]))) .fail)) .fail) .fail))) (.br (inb (qA .i64 x4 1) 232) (.br (inb (qA .i64 x4 1) 232) (.br (ilt (qA .i64 x4 1) 0) (.br (ilt 1 x4) (.br (ilt 0 (yi .i64 (qk .i64 0 (cI x2 (qA .i64 x4 1) 0)) 1)) (.leaf (0,[(.i (qcp (yi .i64 (qk .i64 0 (cI x2 (qA .i64 x4 1) 0)) 1) 999999999)),(.b x0),(.i x1),(.r x2),(.b x3),(.i x4),(.r x5)])) (.leaf (0,[(.i 1),(.b x0),(.i x1),(.r x2),(.b x3),(.i x4),(.r x5)]))) .fail) (.br (ile x4 (qA .i64 x4 1)) (.br (ilt 1 x4) (.br (ilt 0 (yi .i64 (qk .i64 0 (cI x2 (qA .i64 x4 1) 0)) 1)) (.leaf (0,[(.i (qcp (yi .i64 (qk .i64 0 (cI x2 (qA .i64 x4 1) 0)) 1) 999999999)),(.b x0),(.i x1),(.r x2),(.b x3),(.i x4),(.r x5)])) (.leaf (0,[(.i 1),(.b x0),(.i x1),(.r x2),(.b x3),(.i x4),(.r x5)]))) .fail) (.br (inb (qA .i64 x4 1) 232) (.br (inb (qA .i64 x4 1) 232) (.br (ilt 1 x4) (.br (ine (qk .i64 (cI x5 (qA .i64 x4 1) 0) 1) 0) (.br (ilt 0 (yi .i64 (qk .i64 0 (cI x2 (qA .i64 x4 1) 0)) (qk .i64 (cI x5 (qA .i64 x4 1) 0) 1))) (.leaf (0,[(.i (qcp (yi .i64 (qk .i64 0 (cI x2 (qA .i64 x4 1) 0)) (qk .i64 (cI x5 (qA .i64 x4 1) 0) 1)) 999999999)),(.b x0),(.i x1),(.r x2),(.b x3),(.i x4),(.r x5)])) (.leaf (0,[(.i 1),(.b x0),(.i x1),(.r x2),(.b x3),(.i x4),(.r x5)]))) .fail) (.br (ine (cI x5 (qA .i64 x4 1) 0) 0) (.br (ilt 0 (yi .i64 (qk .i64 0 (cI x2 (qA .i64 x4 1) 0)) (cI x5 (qA .i64 x4 1) 0))) (.leaf (0,[(.i (qcp (yi .i64 (qk .i64 0 (cI x2 (qA .i64 x4 1) 0)) (cI x5 (qA .i64 x4 1) 0)) 999999999)),(.b x0),(.i x1),(.r x2),(.b x3),(.i x4),(.r x5)])) (.leaf (0,[(.i 1),(.b x0),(.i x1),(.r x2),(.b x3),(.i x4),(.r x5)]))) .fail)) .fail) .fail))) .fail) .fail))) (.br (inb x4 232) (.br (inb x4 232) (.br (ilt (qA .i64 x4 1) 0) (.br (ilt (qA .i64 x4 1) 0) (.br (ilt 1 x4) (.br (ilt 0 (yi .i64 (qk .i64 (ux .i64 (cI x2 x4 0) 1000000000) 0) 1)) (.leaf (0,[(.i (qcp (yi .i64 (qk .i64 (ux .i64 (cI x2 x4 0) 1000000000) 0) 1) 999999999)),(.b x0),(.i x1),(.r x2),(.b x3),(.i x4),(.r x5)])) (.leaf (0,[(.i 1),(.b x0),(.i x1),(.r x2),(.b x3),(.i x4),(.r x5)]))) .fail) (.br (ile x4 (qA .i64 x4 1)) (.br (ilt 1 x4) (.br (ilt 0 (yi .i64 (qk .i64 (ux .i64 (cI x2 x4 0) 1000000000) 0) 1)) (.leaf (0,[(.i (qcp (yi .i64 (qk .i64 (ux .i64 (cI x2 x4 0) 1000000000) 0) 1) 999999999)),(.b x0),(.i x1),(.r x2),(.b x3),(.i x4),(.r x5)])) (.leaf (0,[(.i 1),(.b x0),(.i x1),(.r x2),(.b x3),(.i x4),(.r x5)]))) .fail) (.br (inb (qA .i64 x4 1) 232) (.br (inb (qA .i64 x4 1) 232) (.br (ilt 1 x4) (.br (ine (qk .i64 (cI x5 (qA .i64 x4 1) 0) 1) 0) (.br (ilt 0 (yi .i64 (qk .i64 (ux .i64 (cI x2 x4 0) 1000000000) 0) (qk .i64 (cI x5 (qA .i64 x4 1) 0) 1))) (.leaf (0,[(.i (qcp (yi .i64 (qk .i64 (ux .i64 (cI x2 x4 0) 1000000000) 0) (qk .i64 (cI x5 (qA .i64 x4 1) 0) 1)) 999999999)),(.b x0),(.i x1),(.r x2),(.b x3),(.i x4),(.r x5)])) (.leaf (0,[(.i 1),(.b x0),(.i x1),(.r x2),(.b x3),(.i x4),(.r x5)]))) .fail) (.br (ine (cI x5 (qA .i64 x4 1) 0) 0) (.br (ilt 0 (yi .i64 (qk .i64 (ux .i64 (cI x2 x4 0) 1000000000) 0) (cI x5 (qA .i64 x4 1) 0))) (.leaf (0,[(.i (qcp (yi .i64 (qk .i64 (ux .i64 (cI x2 x4 0) 1000000000) 0) (cI x5 (qA .i64 x4 1) 0)) 999999999)),(.b x0),(.i x1),(.r x2),(.b x3),(.i x4),(.r x5)])) (.leaf (0,[(.i 1),(.b x0),(.i x1),(.r x2),(.b x3),(.i x4),(.r x5)]))) .fail)) .fail) .fail))) (.br (ile x1 (qA .i64 x4 1)) (.br (ilt (qA .i64 x4 1) 0) (.br (ilt 1 x4) (.br (ilt 0 (yi .i64 (qk .i64 (ux .i64 (cI x2 x4 0) 1000000000) 0) 1)) (.leaf (0,[(.i (qcp (yi .i64 (qk .i64 (ux .i64 (cI x2 x4 0) 1000000000) 0) 1) 999999999)),(.b x0),(.i x1),(.r x2),(.b x3),(.i x4),(.r x5)])) (.leaf (0,[(.i 1),(.b x0),(.i x1),(.r x2),(.b x3),(.i x4),(.r x5)]))) .fail) (.br (ile x4 (qA .i64 x4 1)) (.br (ilt 1 x4) (.br (ilt 0 (yi .i64 (qk .i64 (ux .i64 (cI x2 x4 0) 1000000000) 0) 1)) (.leaf (0,[(.i (qcp (yi .i64 (qk .i64 (ux .i64 (cI x2 x4 0) 1000000000) 0) 1) 999999999)),(.b x0),(.i x1),(.r x2),(.b x3),(.i x4),(.r x5)])) (.leaf (0,[(.i 1),(.b x0),(.i x1),(.r x2),(.b x3),(.i x4),(.r x5)]))) .fail) (.br (inb (qA .i64 x4 1) 232) (.br (inb (qA .i64 x4 1) 232) (.br (ilt 1 x4) (.br (ine (qk .i64 (cI x5 (qA .i64 x4 1) 0) 1) 0) (.br (ilt 0 (yi .i64 (qk .i64 (ux .i64 (cI x2 x4 0) 1000000000) 0) (qk .i64 (cI x5 (qA .i64 x4 1) 0) 1))) (.leaf (0,[(.i (qcp (yi .i64 (qk .i64 (ux .i64 (cI x2 x4 0) 1000000000) 0) (qk .i64 (cI x5 (qA .i64 x4 1) 0) 1)) 999999999)),(.b x0),(.i x1),(.r x2),(.b x3),(.i x4),(.r x5)])) (.leaf (0,[(.i 1),(.b x0),(.i x1),(.r x2),(.b x3),(.i x4),(.r x5)]))) .fail) (.br (ine (cI x5 (qA .i64 x4 1) 0) 0) (.br (ilt 0 (yi .i64 (qk .i64 (ux .i64 (cI x2 x4 0) 1000000000) 0) (cI x5 (qA .i64 x4 1) 0))) (.leaf (0,[(.i (qcp (yi .i64 (qk .i64 (ux .i64 (cI x2 x4 0) 1000000000) 0) (cI x5 (qA .i64 x4 1) 0)) 999999999)),(.b x0),(.i x1),(.r x2),(.b x3),(.i x4),(.r x5)])) (.leaf (0,[(.i 1),(.b x0),(.i x1),(.r x2),(.b x3),(.i x4),(.r x5)]))) .fail)) .fail) .fail))) (.br (inb (qA .i64 x4 1) 232) (.br (inb (qA .i64 x4 1) 232) (.br (ilt (qA .i64 x4 1) 0) (.br (ilt 1 x4) (.br (ilt 0 (yi .i64 (qk .i64 (ux .i64 (cI x2 x4 0) 1000000000) (cI x2 (qA .i64 x4 1) 0)) 1)) (.leaf (0,[(.i (qcp (yi .i64 (qk .i64 (ux .i64 (cI x2 x4 0) 1000000000) (cI x2 (qA .i64 x4 1) 0)) 1) 999999999)),(.b x0),(.i x1),(.r x2),(.b x3),(.i x4),(.r x5)])) (.leaf (0,[(.i 1),(.b x0),(.i x1),(.r x2),(.b x3),(.i x4),(.r x5)]))) .fail) (.br (ile x4 (qA .i64 x4 1)) (.br (ilt 1 x4) (.br (ilt 0 (yi .i64 (qk .i64 (ux .i64 (cI x2 x4 0) 1000000000) (cI x2 (qA .i64 x4 1) 0)) 1)) (.leaf (0,[(.i (qcp (yi .i64 (qk .i64 (ux .i64 (cI x2 x4 0) 1000000000) (cI x2 (qA .i64 x4 1) 0)) 1) 999999999)),(.b x0),(.i x1),(.r x2),(.b x3),(.i x4),(.r x5)])) (.leaf (0,[(.i 1),(.b x0),(.i x1),(.r x2),(.b x3),(.i x4),(.r x5)]))) .fail) (.br (inb (qA .i64 x4 1) 232) (.br (inb (qA .i64 x4 1) 232) (.br (ilt 1 x4) (.br (ine (qk .i64 (cI x5 (qA .i64 x4 1) 0) 1) 0) (.br (ilt 0 (yi .i64 (qk .i64 (ux .i64 (cI x2 x4 0) 1000000000) (cI x2 (qA .i64 x4 1) 0)) (qk .i64 (cI x5 (qA .i64 x4 1) 0) 1))) (.leaf (0,[(.i (qcp (yi .i64 (qk .i64 (ux .i64 (cI x2 x4 0) 1000000000) (cI x2 (qA .i64 x4 1) 0)) (qk .i64 (cI x5 (qA .i64 x4 1) 0) 1)) 999999999)),(.b x0),(.i x1),(.r x2),(.b x3),(.i x4),(.r x5)])) (.leaf (0,[(.i 1),(.b x0),(.i x1),(.r x2),(.b x3),(.i x4),(.r x5)]))) .fail) (.br (ine (cI x5 (qA .i64 x4 1) 0) 0) (.br (ilt 0 (yi .i64 (qk .i64 (ux .i64 (cI x2 x4 0) 1000000000) (cI x2 (qA .i64 x4 1) 0)) (cI x5 (qA .i64 x4 1) 0))) (.leaf (0,[(.i (qcp (yi .i64 (qk .i64 (ux .i64 (cI x2 x4 0) 1000000000) (cI x2 (qA .i64 x4 1) 0)) (cI x5 (qA .i64 x4 1) 0)) 999999999)),(.b x0),(.i x1),(.r x2),(.b x3),(.i x4),(.r x5)])) (.leaf (0,[(.i 1),(.b x0),(.i x1),(.r x2),(.b x3),(.i x4),(.r x5)]))) .fail)) .fail) .fail))) .fail) .fail))) .fail) .fail))):=by kernel_rfl
theorem q9G(y0:Int)(y1:Int)(y2:Int)(y3:Int)(y4:Bool)(y5:Int)(y6:R)(y7:Bool)(y8:Int)(y9:R):j9 [.i y0,.i y1,.i y2,.i y3,.b y4,.i y5,.r y6,.b y7,.i y8,.r y9]=(.br (ilt y3 y8) (.br (inb (qk .i64 y3 y1) 232) (.br (inb (qk .i64 y3 y1) 232) (.br (ilt y3 y8) (.br (inb y3 232) (.br (inb y3 232) (.br (ilt (qA .i64 (qk .i64 (qk .i64 (cI y6 (qk .i64 y3 y1) 0) y2) (ux .i64 y0 (cI y9 y3 0))) (ux .i64 (yi .i64 (qk .i64 (qk .i64 (cI y6 (qk .i64 y3 y1) 0) y2) (ux .i64 y0 (cI y9 y3 0))) 1000000000) 1000000000)) 0) (.br (inb (qk .i64 y3 y1) 232) (.br (inb (qk .i64 y3 y1) 232) (.leaf (0,[(.i y0),(.i y1),(.i (qA .i64 (yi .i64 (qk .i64 (qk .i64 (cI y6 (qk .i64 y3 y1) 0) y2) (ux .i64 y0 (cI y9 y3 0))) 1000000000) 1)),(.i (qk .i64 y3 1)),(.b y4),(.i (qi9 y5 (qk .i64 (qk .i64 y3 y1) 1))),(.r (q6D y6 (qk .i64 y3 y1) 0 [(.i (qk .i64 (qA .i64 (qk .i64 (qk .i64 (cI y6 (qk .i64 y3 y1) 0) y2) (ux .i64 y0 (cI y9 y3 0))) (ux .i64 (yi .i64 (qk .i64 (qk .i64 (cI y6 (qk .i64 y3 y1) 0) y2) (ux .i64 y0 (cI y9 y3 0))) 1000000000) 1000000000)) 1000000000))])),(.b y7),(.i y8),(.r y9)])) .fail) .fail) (.br (inb (qk .i64 y3 y1) 232) (.br (inb (qk .i64 y3 y1) 232) (.leaf (0,[(.i y0),(.i y1),(.i (yi .i64 (qk .i64 (qk .i64 (cI y6 (qk .i64 y3 y1) 0) y2) (ux .i64 y0 (cI y9 y3 0))) 1000000000)),(.i (qk .i64 y3 1)),(.b y4),(.i (qi9 y5 (qk .i64 (qk .i64 y3 y1) 1))),(.r (q6D y6 (qk .i64 y3 y1) 0 [(.i (qA .i64 (qk .i64 (qk .i64 (cI y6 (qk .i64 y3 y1) 0) y2) (ux .i64 y0 (cI y9 y3 0))) (ux .i64 (yi .i64 (qk .i64 (qk .i64 (cI y6 (qk .i64 y3 y1) 0) y2) (ux .i64 y0 (cI y9 y3 0))) 1000000000) 1000000000)))])),(.b y7),(.i y8),(.r y9)])) .fail) .fail)) .fail) .fail) (.br (ilt (qA .i64 (qk .i64 (cI y6 (qk .i64 y3 y1) 0) y2) (ux .i64 (yi .i64 (qk .i64 (cI y6 (qk .i64 y3 y1) 0) y2) 1000000000) 1000000000)) 0) (.br (inb (qk .i64 y3 y1) 232) (.br (inb (qk .i64 y3 y1) 232) (.leaf (0,[(.i y0),(.i y1),(.i (qA .i64 (yi .i64 (qk .i64 (cI y6 (qk .i64 y3 y1) 0) y2) 1000000000) 1)),(.i (qk .i64 y3 1)),(.b y4),(.i (qi9 y5 (qk .i64 (qk .i64 y3 y1) 1))),(.r (q6D y6 (qk .i64 y3 y1) 0 [(.i (qk .i64 (qA .i64 (qk .i64 (cI y6 (qk .i64 y3 y1) 0) y2) (ux .i64 (yi .i64 (qk .i64 (cI y6 (qk .i64 y3 y1) 0) y2) 1000000000) 1000000000)) 1000000000))])),(.b y7),(.i y8),(.r y9)])) .fail) .fail) (.br (inb (qk .i64 y3 y1) 232) (.br (inb (qk .i64 y3 y1) 232) (.leaf (0,[(.i y0),(.i y1),(.i (yi .i64 (qk .i64 (cI y6 (qk .i64 y3 y1) 0) y2) 1000000000)),(.i (qk .i64 y3 1)),(.b y4),(.i (qi9 y5 (qk .i64 (qk .i64 y3 y1) 1))),(.r (q6D y6 (qk .i64 y3 y1) 0 [(.i (qA .i64 (qk .i64 (cI y6 (qk .i64 y3 y1) 0) y2) (ux .i64 (yi .i64 (qk .i64 (cI y6 (qk .i64 y3 y1) 0) y2) 1000000000) 1000000000)))])),(.b y7),(.i y8),(.r y9)])) .fail) .fail))) .fail) .fail) (.br (ine y2 0) (.br (inb (qk .i64 y3 y1) 232) (.br (inb (qk .i64 y3 y1) 232) (.br (ilt y3 y8) (.br (inb y3 232) (.br (inb y3 232) (.br (ilt (qA .i64 (qk .i64 (qk .i64 (cI y6 (qk .i64 y3 y1) 0) y2) (ux .i64 y0 (cI y9 y3 0))) (ux .i64 (yi .i64 (qk .i64 (qk .i64 (cI y6 (qk .i64 y3 y1) 0) y2) (ux .i64 y0 (cI y9 y3 0))) 1000000000) 1000000000)) 0) (.br (inb (qk .i64 y3 y1) 232) (.br (inb (qk .i64 y3 y1) 232) (.leaf (0,[(.i y0),(.i y1),(.i (qA .i64 (yi .i64 (qk .i64 (qk .i64 (cI y6 (qk .i64 y3 y1) 0) y2) (ux .i64 y0 (cI y9 y3 0))) 1000000000) 1)),(.i (qk .i64 y3 1)),(.b y4),(.i (qi9 y5 (qk .i64 (qk .i64 y3 y1) 1))),(.r (q6D y6 (qk .i64 y3 y1) 0 [(.i (qk .i64 (qA .i64 (qk .i64 (qk .i64 (cI y6 (qk .i64 y3 y1) 0) y2) (ux .i64 y0 (cI y9 y3 0))) (ux .i64 (yi .i64 (qk .i64 (qk .i64 (cI y6 (qk .i64 y3 y1) 0) y2) (ux .i64 y0 (cI y9 y3 0))) 1000000000) 1000000000)) 1000000000))])),(.b y7),(.i y8),(.r y9)])) .fail) .fail) (.br (inb (qk .i64 y3 y1) 232) (.br (inb (qk .i64 y3 y1) 232) (.leaf (0,[(.i y0),(.i y1),(.i (yi .i64 (qk .i64 (qk .i64 (cI y6 (qk .i64 y3 y1) 0) y2) (ux .i64 y0 (cI y9 y3 0))) 1000000000)),(.i (qk .i64 y3 1)),(.b y4),(.i (qi9 y5 (qk .i64 (qk .i64 y3 y1) 1))),(.r (q6D y6 (qk .i64 y3 y1) 0 [(.i (qA .i64 (qk .i64 (qk .i64 (cI y6 (qk .i64 y3 y1) 0) y2) (ux .i64 y0 (cI y9 y3 0))) (ux .i64 (yi .i64 (qk .i64 (qk .i64 (cI y6 (qk .i64 y3 y1) 0) y2) (ux .i64 y0 (cI y9 y3 0))) 1000000000) 1000000000)))])),(.b y7),(.i y8),(.r y9)])) .fail) .fail)) .fail) .fail) (.br (ilt (qA .i64 (qk .i64 (cI y6 (qk .i64 y3 y1) 0) y2) (ux .i64 (yi .i64 (qk .i64 (cI y6 (qk .i64 y3 y1) 0) y2) 1000000000) 1000000000)) 0) (.br (inb (qk .i64 y3 y1) 232) (.br (inb (qk .i64 y3 y1) 232) (.leaf (0,[(.i y0),(.i y1),(.i (qA .i64 (yi .i64 (qk .i64 (cI y6 (qk .i64 y3 y1) 0) y2) 1000000000) 1)),(.i (qk .i64 y3 1)),(.b y4),(.i (qi9 y5 (qk .i64 (qk .i64 y3 y1) 1))),(.r (q6D y6 (qk .i64 y3 y1) 0 [(.i (qk .i64 (qA .i64 (qk .i64 (cI y6 (qk .i64 y3 y1) 0) y2) (ux .i64 (yi .i64 (qk .i64 (cI y6 (qk .i64 y3 y1) 0) y2) 1000000000) 1000000000)) 1000000000))])),(.b y7),(.i y8),(.r y9)])) .fail) .fail) (.br (inb (qk .i64 y3 y1) 232) (.br (inb (qk .i64 y3 y1) 232) (.leaf (0,[(.i y0),(.i y1),(.i (yi .i64 (qk .i64 (cI y6 (qk .i64 y3 y1) 0) y2) 1000000000)),(.i (qk .i64 y3 1)),(.b y4),(.i (qi9 y5 (qk .i64 (qk .i64 y3 y1) 1))),(.r (q6D y6 (qk .i64 y3 y1) 0 [(.i (qA .i64 (qk .i64 (cI y6 (qk .i64 y3 y1) 0) y2) (ux .i64 (yi .i64 (qk .i64 (cI y6 (qk .i64 y3 y1) 0) y2) 1000000000) 1000000000)))])),(.b y7),(.i y8),(.r y9)])) .fail) .fail))) .fail) .fail) (.leaf (1,[(.b y4),(.i y5),(.r y6),(.b y7),(.i y8),(.r y9)])))):=by kernel_rfl
theorem qlC(x0:Int)(x1:Int)(x2:Bool)(x3:Int)(x4:R)(x5:Bool)(x6:Int)(x7:R):qK [.i x0,.i x1,.b x2,.i x3,.r x4,.b x5,.i x6,.r x7]=(let r0:TR:=(qf j9 [(.i x0),(.i x1),(.i 0),(.i 0),(.b x2),(.i x3),(.r x4),(.b x5),(.i x6),(.r x7)])
 .br (okR r0) (let r1:TR:=(qC [(.b (gB r0 0)),(.i (gI r0 1)),(.r (gR r0 2))])
 .br (okR r1) (.leaf (0,[(.b (gB r1 0)),(.i (gI r1 1)),(.r (gR r1 2)),(.b (gB r0 3)),(.i (gI r0 4)),(.r (gR r0 5))])) .fail) .fail):=by kernel_rfl
theorem qlY(y0:Int)(y1:Int)(y2:Bool)(y3:Int)(y4:R)(y5:Bool)(y6:Int)(y7:R)(y8:Bool)(y9:Int)(y10:R)(y11:Bool)(y12:Int)(y13:R):yw [.i y0,.i y1,.b y2,.i y3,.r y4,.b y5,.i y6,.r y7,.b y8,.i y9,.r y10,.b y11,.i y12,.r y13]=(let r0:TR:=(zA [(.b y11),(.i y12),(.r y13),(.b y5),(.i y6),(.r y7)])
 .br (okR r0) (.br (ile 0 (gI r0 0)) (let r1:TR:=(yS [(.b (gB r0 1)),(.i (gI r0 2)),(.r (gR r0 3)),(.b (gB r0 4)),(.i (gI r0 5)),(.r (gR r0 6))])
 .br (okR r1) (let r2:TR:=(qK [(.i (qA .i64 0 (gI r1 0))),(.i 0),(.b (gB r1 1)),(.i (gI r1 2)),(.r (gR r1 3)),(.b (gB r1 4)),(.i (gI r1 5)),(.r (gR r1 6))])
 .br (okR r2) (.leaf (0,[(.i y0),(.i (qk .i64 y1 (gI r1 0))),(.b y2),(.i y3),(.r y4),(.b (gB r2 3)),(.i (gI r2 4)),(.r (gR r2 5)),(.b y8),(.i y9),(.r y10),(.b (gB r2 0)),(.i (gI r2 1)),(.r (gR r2 2))])) .fail) .fail) (.leaf (1,[(.i y0),(.i y1),(.b y2),(.i y3),(.r y4),(.b (gB r0 4)),(.i (gI r0 5)),(.r (gR r0 6)),(.b y8),(.i y9),(.r y10),(.b (gB r0 1)),(.i (gI r0 2)),(.r (gR r0 3))]))) .fail):=by kernel_rfl
theorem qnv(y0:Int)(y1:Bool)(y2:Int)(y3:R)(y4:Bool)(y5:Int)(y6:R)(y7:Bool)(y8:Int)(y9:R)(y10:Bool)(y11:Int)(y12:R):q1t [.i y0,.b y1,.i y2,.r y3,.b y4,.i y5,.r y6,.b y7,.i y8,.r y9,.b y10,.i y11,.r y12]=(.br (ile 0 y0) (.br (q6E 232 232) (.br (q6E 1 232) (.br (q6E y11 232) (.br (q6E 0 y11) (.br (inb y0 232) (.br (inb y0 232) (let r0:TR:=(qC [(.b y10),(.i (qk .i64 y11 1)),(.r (q6D (qnt y12 1 y12 0 (qcp (qzt y11 0) (qzt 232 1))) 0 0 [(.i (cI y3 y0 0))]))])
 .br (okR r0) (let r1:TR:=(qf yw [(.i y0),(.i 0),(.b y1),(.i y2),(.r y3),(.b y4),(.i y5),(.r y6),(.b y7),(.i y8),(.r y9),(.b (gB r0 0)),(.i (gI r0 1)),(.r (gR r0 2))])
 .br (okR r1) (.br (inb (gI r1 0) 232) (.br (inb (gI r1 0) 232) (.leaf (0,[(.i (qA .i64 (gI r1 0) 1)),(.b (gB r1 2)),(.i (gI r1 3)),(.r (gR r1 4)),(.b (gB r1 5)),(.i (gI r1 6)),(.r (gR r1 7)),(.b (gB r1 8)),(.i (qi9 (gI r1 9) (qk .i64 (gI r1 0) 1))),(.r (q6D (gR r1 10) (gI r1 0) 0 [(.i (gI r1 1))])),(.b (gB r1 11)),(.i (gI r1 12)),(.r (gR r1 13))])) .fail) .fail) .fail) .fail) .fail) .fail) .fail) .fail) .fail) .fail) (.leaf (1,[(.b y1),(.i y2),(.r y3),(.b y4),(.i y5),(.r y6),(.b y7),(.i y8),(.r y9),(.b y10),(.i y11),(.r y12)]))):=by kernel_rfl
theorem qqU(x0:Bool)(x1:Int)(x2:R)(x3:Bool)(x4:Int)(x5:R):vj [.b x0,.i x1,.r x2,.b x3,.i x4,.r x5]=(let r0:TR:=(qf q1t [(.i (qA .i64 x1 1)),(.b x0),(.i x1),(.r x2),(.b x3),(.i x4),(.r x5),(.b false),(.i 0),(.r (q4U 232 [(.i 0)])),(.b false),(.i 0),(.r (q4U 232 [(.i 0)]))])
 .br (okR r0) (let r1:TR:=(qC [(.b (gB r0 6)),(.i (gI r0 7)),(.r (gR r0 8))])
 .br (okR r1) (.leaf (0,[(.b (gB r0 0)),(.i (gI r0 1)),(.r (gR r0 2)),(.b (gB r0 3)),(.i (gI r0 4)),(.r (gR r0 5)),(.b (gB r1 0)),(.i (gI r1 1)),(.r (gR r1 2)),(.b (gB r0 9)),(.i (gI r0 10)),(.r (gR r0 11))])) .fail) .fail):=by kernel_rfl
theorem qsQ(y0:Int)(y1:Int):q2B [.i y0,.i y1]=(.br (ine y1 0) (.br (ine y1 0) (.leaf (0,[(.i y1),(.i (q83 y0 y1))])) .fail) (.leaf (1,[(.i y0)]))):=by kernel_rfl
theorem qtZ(y0:Bool)(y1:Int)(y2:R)(y3:Bool)(y4:Int)(y5:R):q6T [.b y0,.i y1,.r y2,.b y3,.i y4,.r y5]=(.br (ilt 0 y4) (.br (ile y1 1) (.br (ile y4 1) (let r0:TR:=(qf q2B [(.i (cI y2 0 0)),(.i (cI y5 0 0))])
 .br (okR r0) (let r1:TR:=(zt [(.i (gI r0 0))])
 .br (okR r1) (.leaf (2,[(.s (gS r1 0)),(.i 0)])) .fail) .fail) (let r0:TR:=(vj [(.b y0),(.i y1),(.r y2),(.b y3),(.i y4),(.r y5)])
 .br (okR r0) (.leaf (0,[(.b (gB r0 3)),(.i (gI r0 4)),(.r (gR r0 5)),(.b (gB r0 9)),(.i (gI r0 10)),(.r (gR r0 11))])) .fail)) (let r0:TR:=(vj [(.b y0),(.i y1),(.r y2),(.b y3),(.i y4),(.r y5)])
 .br (okR r0) (.leaf (0,[(.b (gB r0 3)),(.i (gI r0 4)),(.r (gR r0 5)),(.b (gB r0 9)),(.i (gI r0 10)),(.r (gR r0 11))])) .fail)) (.leaf (1,[(.b y0),(.i y1),(.r y2)]))):=by kernel_rfl
theorem qz1(x0:List UInt8)(x1:List UInt8):q3N [.s x0,.s x1]=(let r0:TR:=(zX [(.r [[(.s x0)],[(.s x1)]])])
 .br (okR r0) (.br (ine (gI r0 0) 0) (.leaf (0,[(.s []),(.i (gI r0 0))])) (let r1:TR:=(zz [(.s x0)])
 .br (okR r1) (let r2:TR:=(zz [(.s x1)])
 .br (okR r2) (let r3:TR:=(qf q6T [(.b (gB r1 0)),(.i (gI r1 1)),(.r (gR r1 2)),(.b (gB r2 0)),(.i (gI r2 1)),(.r (gR r2 2))])
 .br (okR r3) (.br (jIs r3 0) (let r4:TR:=(qL [(.b false),(.i (gI r3 1)),(.r (gR r3 2))])
 .br (okR r4) (.leaf (0,[(.s (gS r4 0)),(.i 0)])) .fail) (.leaf (0,[(.s (gS r3 0)),(.i (gI r3 1))]))) .fail) .fail) .fail)) .fail):=by kernel_rfl
theorem quA(x0:List UInt8):qD [.s x0]=(let r0:TR:=(qT [(.s x0)])
 .br (okR r0) (let r1:TR:=(qQ [(.s (gS r0 0))])
 .br (okR r1) (let r2:TR:=(qQ [(.s (gS r0 1))])
 .br (okR r2) (.br (ieq (gI r1 0) 3) (.leaf (0,[(.i 3)])) (.br (ieq (gI r2 0) 3) (.leaf (0,[(.i 3)])) (.br (ine (gI r1 0) 0) (.leaf (0,[(.i (qi9 (gI r1 0) (gI r2 0)))])) (.br (ine (gI r2 0) 0) (.leaf (0,[(.i (qi9 (gI r1 0) (gI r2 0)))])) (.br (not (gB r0 2)) (.leaf (0,[(.i 0)])) (let r3:TR:=(q3r [(.s (gS r0 1)),(.s [49])])
 .br (okR r3) (let r4:TR:=(q3N [(.s (gS r0 0)),(.s (gS r0 1))])
 .br (okR r4) (.br (ine (gI r3 1) 0) (.leaf (0,[(.i 3)])) (.br (ine (gI r4 1) 0) (.leaf (0,[(.i 3)])) (.br (ile (gI r3 0) 0) (.leaf (0,[(.i 3)])) (.br (not (seq (gS r4 0) [49])) (.leaf (0,[(.i 3)])) (.leaf (0,[(.i 0)])))))) .fail) .fail)))))) .fail) .fail) .fail):=by kernel_rfl
theorem q5E(y0:Int)(y1:Int)(y2:List UInt8)(y3:List UInt8)(y4:List UInt8)(y5:R):q3z [.i y0,.i y1,.s y2,.s y3,.s y4,.r y5]=(.br (ilt y1 y0) (.br (inb y1 (qh y5)) (let r0:TR:=(qD [(.s (cS y5 y1 0))])
 .br (okR r0) (.br (ine (gI r0 0) 0) (.leaf (2,[(.i (gI r0 0))])) (.leaf (0,[(.i y0),(.i (qk .i64 y1 1)),(.s y2),(.s y3),(.s y4),(.r y5)]))) .fail) .fail) (.leaf (1,[(.s y2),(.s y3),(.s y4)]))):=by kernel_rfl
theorem quI(x0:List UInt8)(x1:List UInt8)(x2:List UInt8):uk [.s x0,.s x1,.s x2]=(let r0:TR:=(qf q3z [(.i (qh [[(.s x0)],[(.s x1)],[(.s x2)]])),(.i 0),(.s x0),(.s x1),(.s x2),(.r [[(.s x0)],[(.s x1)],[(.s x2)]])])
 .br (okR r0) (.br (jIs r0 0) (.br (inb 0 (qt (gS r0 2))) (.br (ieq (sat (gS r0 2) 0) 45) (.leaf (0,[(.i 2)])) (.leaf (0,[(.i 0)]))) .fail) (.leaf (0,[(.i (gI r0 0))]))) .fail):=by kernel_rfl
theorem qiT(y0:R)(y1:R)(y2:Int)(y3:Int):q53 [.r y0,.r y1,.i y2,.i y3]=(.br (ilt y3 y2) (.br (inb y3 (qh y1)) (let r0:TR:=(uk [(.s (cS y1 y3 0)),(.s (cS y1 y3 1)),(.s (cS y1 y3 2))])
 .br (okR r0) (.br (ine (gI r0 0) 0) (.leaf (2,[(.i (gI r0 0))])) (.leaf (0,[(.r y0),(.r y1),(.i y2),(.i (qk .i64 y3 1))]))) .fail) .fail) (.leaf (1,[(.r y0)]))):=by kernel_rfl
theorem qwP(x0:R):zx [.r x0]=(.br (ilt 64 (qh x0)) (.leaf (0,[(.i 5)])) (let r0:TR:=(qf q53 [(.r x0),(.r x0),(.i (qh x0)),(.i 0)])
 .br (okR r0) (.br (jIs r0 0) (.br (ieq (qh (gR r0 0)) 0) (.leaf (0,[(.i 13)])) (.leaf (0,[(.i 0)]))) (.leaf (0,[(.i (gI r0 0))]))) .fail)):=by kernel_rfl
theorem qu5(x0:List UInt8)(x1:List UInt8):uj [.s x0,.s x1]=(.br (ilt 9 (qt x0)) (.leaf (0,[(.i 0),(.i 0),(.b false)])) (.br (ilt 9 (qt x1)) (.leaf (0,[(.i 0),(.i 0),(.b false)])) (.br (okR (vX [(.s x0)])) (.br (okR (vX [(.s x1)])) (.leaf (0,[(.i (gI (vX [(.s x0)]) 0)),(.i (gI (vX [(.s x1)]) 0)),(.b true)])) .fail) .fail))):=by kernel_rfl
theorem qsq(x0:Int):q0p [.i x0]=(.br (okR (zt [(.i x0)])) (.leaf (0,[(.s (gS (zt [(.i x0)]) 0)),(.i 0)])) .fail):=by kernel_rfl
theorem qjt(x0:Bool)(x1:Int)(x2:R):zV [.b x0,.i x1,.r x2]=(let r0:TR:=(qL [(.b x0),(.i x1),(.r x2)])
 .br (okR r0) (let r1:TR:=(qQ [(.s (gS r0 0))])
 .br (okR r1) (.br (ine (gI r1 0) 0) (.leaf (0,[(.s []),(.i (gI r1 0)),(.b (gB r0 1)),(.i (gI r0 2)),(.r (gR r0 3))])) (.leaf (0,[(.s (gS r0 0)),(.i 0),(.b (gB r0 1)),(.i (gI r0 2)),(.r (gR r0 3))]))) .fail) .fail):=by kernel_rfl
theorem qmR(x0:Bool)(x1:Int)(x2:R)(x3:Bool)(x4:Int)(x5:R):wK [.b x0,.i x1,.r x2,.b x3,.i x4,.r x5]=(.br (beq x0 x3) (let r0:TR:=(qK [(.i 1),(.i 0),(.b x0),(.i x1),(.r x2),(.b x3),(.i x4),(.r x5)])
 .br (okR r0) (.leaf (0,[(.b (gB r0 0)),(.i (gI r0 1)),(.r (gR r0 2)),(.b (gB r0 3)),(.i (gI r0 4)),(.r (gR r0 5))])) .fail) (let r0:TR:=(zA [(.b x0),(.i x1),(.r x2),(.b x3),(.i x4),(.r x5)])
 .br (okR r0) (.br (ile 0 (gI r0 0)) (let r1:TR:=(qK [(.i (-1)),(.i 0),(.b (gB r0 1)),(.i (gI r0 2)),(.r (gR r0 3)),(.b (gB r0 4)),(.i (gI r0 5)),(.r (gR r0 6))])
 .br (okR r1) (.leaf (0,[(.b (gB r1 0)),(.i (gI r1 1)),(.r (gR r1 2)),(.b (gB r1 3)),(.i (gI r1 4)),(.r (gR r1 5))])) .fail) (let r1:TR:=(qK [(.i (-1)),(.i 0),(.b (gB r0 4)),(.i (gI r0 5)),(.r (gR r0 6)),(.b (gB r0 1)),(.i (gI r0 2)),(.r (gR r0 3))])
 .br (okR r1) (.leaf (0,[(.b (gB r1 0)),(.i (gI r1 1)),(.r (gR r1 2)),(.b (gB r0 4)),(.i (gI r0 5)),(.r (gR r0 6))])) .fail)) .fail)):=by kernel_rfl
theorem qel(y0:R)(y1:Int)(y2:Int)(y3:Bool)(y4:Int)(y5:R):q7a [.r y0,.i y1,.i y2,.b y3,.i y4,.r y5]=(.br (ilt y2 y1) (.br (inb y2 (qh y0)) (let r0:TR:=(zz [(.s (cS y0 y2 0))])
 .br (okR r0) (let r1:TR:=(wK [(.b y3),(.i y4),(.r y5),(.b (gB r0 0)),(.i (gI r0 1)),(.r (gR r0 2))])
 .br (okR r1) (.leaf (0,[(.r y0),(.i y1),(.i (qk .i64 y2 1)),(.b (gB r1 0)),(.i (gI r1 1)),(.r (gR r1 2))])) .fail) .fail) .fail) (.leaf (1,[(.b y3),(.i y4),(.r y5)]))):=by kernel_rfl
theorem qxy(x0:R):qc3 [.r x0]=(let r0:TR:=(qf q7a [(.r x0),(.i (qh x0)),(.i 0),(.b false),(.i 0),(.r (q4U 232 [(.i 0)]))])
 .br (okR r0) (let r1:TR:=(zV [(.b (gB r0 0)),(.i (gI r0 1)),(.r (gR r0 2))])
 .br (okR r1) (.leaf (0,[(.s (gS r1 0)),(.i (gI r1 1))])) .fail) .fail):=by kernel_rfl
theorem qyT(x0:List UInt8)(x1:List UInt8):q3j [.s x0,.s x1]=(let r0:TR:=(zX [(.r [[(.s x0)],[(.s x1)]])])
 .br (okR r0) (.br (ine (gI r0 0) 0) (.leaf (0,[(.s []),(.i (gI r0 0))])) (let r1:TR:=(uj [(.s x0),(.s x1)])
 .br (okR r1) (.br (gB r1 2) (let r2:TR:=(q0p [(.i (qk .i64 (gI r1 0) (gI r1 1)))])
 .br (okR r2) (.leaf (0,[(.s (gS r2 0)),(.i (gI r2 1))])) .fail) (let r2:TR:=(qc3 [(.r [[(.s x0)],[(.s x1)]])])
 .br (okR r2) (.leaf (0,[(.s (gS r2 0)),(.i (gI r2 1))])) .fail)) .fail)) .fail):=by kernel_rfl
theorem qpo(x0:List UInt8):q20 [.s x0]=(let r0:TR:=(uz [(.s x0)])
 .br (okR r0) (.br (ieq (gI r0 0) 0) (.leaf (0,[(.s x0)])) (.br (ieq (gI r0 0) 1) (.br (ile ((qt [45])+(qt x0)) 140737488355328) (.leaf (0,[(.s (qeY [45] x0))])) .fail) (.br (q6E (qt x0) (qt x0)) (.br (q6E 1 (qt x0)) (.leaf (0,[(.s (qds x0 1 (qt x0)))])) .fail) .fail))) .fail):=by kernel_rfl
theorem qyx(x0:List UInt8)(x1:List UInt8):q8m [.s x0,.s x1]=(let r0:TR:=(zX [(.r [[(.s x0)],[(.s x1)]])])
 .br (okR r0) (.br (ine (gI r0 0) 0) (.leaf (0,[(.s []),(.i (gI r0 0))])) (let r1:TR:=(q20 [(.s x1)])
 .br (okR r1) (let r2:TR:=(q3j [(.s x0),(.s (gS r1 0))])
 .br (okR r2) (.leaf (0,[(.s (gS r2 0)),(.i (gI r2 1))])) .fail) .fail)) .fail):=by kernel_rfl
theorem qdd(x0:List UInt8)(x1:List UInt8)(x2:Int):wX [.s x0,.s x1,.i x2]=(.br (ine x2 0) (.leaf (0,[(.s [48]),(.i x2)])) (let r0:TR:=(q8m [(.s x0),(.s x1)])
 .br (okR r0) (.br (ine (gI r0 1) 0) (.leaf (0,[(.s [48]),(.i (gI r0 1))])) (.leaf (0,[(.s (gS r0 0)),(.i (gI r0 1))]))) .fail)):=by kernel_rfl
theorem qoR(x0:List UInt8)(x1:List UInt8)(x2:Int):zq [.s x0,.s x1,.i x2]=(let r0:TR:=(wX [(.s x0),(.s x1),(.i x2)])
 .br (okR r0) (.leaf (0,[(.s (gS r0 0)),(.i (gI r0 1))])) .fail):=by kernel_rfl
theorem qid(y0:Int)(y1:Int)(y2:Bool)(y3:Int)(y4:R)(y5:Bool)(y6:Int)(y7:R)(y8:Bool)(y9:Int)(y10:R):yW [.i y0,.i y1,.b y2,.i y3,.r y4,.b y5,.i y6,.r y7,.b y8,.i y9,.r y10]=(.br (ilt y1 y0) (.br (inb y1 232) (.br (inb y1 232) (let r0:TR:=(qK [(.i (cI y7 y1 0)),(.i y1),(.b y8),(.i y9),(.r y10),(.b y2),(.i y3),(.r y4)])
 .br (okR r0) (.leaf (0,[(.i y0),(.i (qk .i64 y1 1)),(.b (gB r0 3)),(.i (gI r0 4)),(.r (gR r0 5)),(.b y5),(.i y6),(.r y7),(.b (gB r0 0)),(.i (gI r0 1)),(.r (gR r0 2))])) .fail) .fail) .fail) (.leaf (1,[(.b y2),(.i y3),(.r y4),(.b y5),(.i y6),(.r y7),(.b y8),(.i y9),(.r y10)]))):=by kernel_rfl
theorem qls(x0:Bool)(x1:Int)(x2:R)(x3:Bool)(x4:Int)(x5:R):kX [.b x0,.i x1,.r x2,.b x3,.i x4,.r x5]=(let r0:TR:=(qf yW [(.i x4),(.i 0),(.b x0),(.i x1),(.r x2),(.b x3),(.i x4),(.r x5),(.b (not (beq x0 x3))),(.i 0),(.r (q4U 232 [(.i 0)]))])
 .br (okR r0) (.leaf (0,[(.b (gB r0 0)),(.i (gI r0 1)),(.r (gR r0 2)),(.b (gB r0 3)),(.i (gI r0 4)),(.r (gR r0 5)),(.b (gB r0 6)),(.i (gI r0 7)),(.r (gR r0 8))])) .fail):=by kernel_rfl
theorem qys(x0:List UInt8)(x1:List UInt8):q6e [.s x0,.s x1]=(let r0:TR:=(zX [(.r [[(.s x0)],[(.s x1)]])])
 .br (okR r0) (.br (ine (gI r0 0) 0) (.leaf (0,[(.s []),(.i (gI r0 0))])) (let r1:TR:=(uj [(.s x0),(.s x1)])
 .br (okR r1) (.br (gB r1 2) (let r2:TR:=(q0p [(.i (ux .i64 (gI r1 0) (gI r1 1)))])
 .br (okR r2) (.leaf (0,[(.s (gS r2 0)),(.i (gI r2 1))])) .fail) (let r2:TR:=(zz [(.s x0)])
 .br (okR r2) (let r3:TR:=(zz [(.s x1)])
 .br (okR r3) (let r4:TR:=(kX [(.b (gB r2 0)),(.i (gI r2 1)),(.r (gR r2 2)),(.b (gB r3 0)),(.i (gI r3 1)),(.r (gR r3 2))])
 .br (okR r4) (let r5:TR:=(zV [(.b (gB r4 6)),(.i (gI r4 7)),(.r (gR r4 8))])
 .br (okR r5) (.leaf (0,[(.s (gS r5 0)),(.i (gI r5 1))])) .fail) .fail) .fail) .fail)) .fail)) .fail):=by kernel_rfl
theorem qd8(x0:List UInt8)(x1:List UInt8)(x2:Int):zO [.s x0,.s x1,.i x2]=(.br (ine x2 0) (.leaf (0,[(.s [48]),(.i x2)])) (let r0:TR:=(q6e [(.s x0),(.s x1)])
 .br (okR r0) (.br (ine (gI r0 1) 0) (.leaf (0,[(.s [48]),(.i (gI r0 1))])) (.leaf (0,[(.s (gS r0 0)),(.i (gI r0 1))]))) .fail)):=by kernel_rfl
theorem qck(y0:List UInt8)(y1:R)(y2:Int)(y3:Int)(y4:Int):yn [.s y0,.r y1,.i y2,.i y3,.i y4]=(.br (ilt y3 y2) (.br (inb y3 (qh y1)) (let r0:TR:=(zO [(.s y0),(.s (cS y1 y3 0)),(.i y4)])
 .br (okR r0) (.leaf (0,[(.s (gS r0 0)),(.r y1),(.i y2),(.i (qk .i64 y3 1)),(.i (gI r0 1))])) .fail) .fail) (.leaf (1,[(.s y0),(.i y4)]))):=by kernel_rfl
theorem qoS(x0:R)(x1:Int):qg [.r x0,.i x1]=(let r0:TR:=(qf yn [(.s [49]),(.r x0),(.i (qh x0)),(.i 0),(.i x1)])
 .br (okR r0) (.leaf (0,[(.s (gS r0 0)),(.i (gI r0 1))])) .fail):=by kernel_rfl
theorem qtL(x0:List UInt8)(x1:List UInt8)(x2:List UInt8)(x3:List UInt8)(x4:Int):q4D [.s x0,.s x1,.s x2,.s x3,.i x4]=(let r0:TR:=(qg [(.r [[(.s x0)],[(.s x3)]]),(.i x4)])
 .br (okR r0) (let r1:TR:=(qg [(.r [[(.s x2)],[(.s x1)]]),(.i (gI r0 1))])
 .br (okR r1) (let r2:TR:=(zq [(.s (gS r0 0)),(.s (gS r1 0)),(.i (gI r1 1))])
 .br (okR r2) (let r3:TR:=(qg [(.r [[(.s x1)],[(.s x3)]]),(.i (gI r2 1))])
 .br (okR r3) (.leaf (0,[(.s (gS r2 0)),(.s (gS r3 0)),(.i (gI r3 1))])) .fail) .fail) .fail) .fail):=by kernel_rfl
theorem qfC(y0:R)(y1:Int)(y2:Int):q2p [.r y0,.i y1,.i y2]=(.br (ilt y2 y1) (.br (inb y2 (qh y0)) (let r0:TR:=(qD [(.s (cS y0 y2 0))])
 .br (okR r0) (.br (ine (gI r0 0) 0) (.leaf (2,[(.i (gI r0 0))])) (.leaf (0,[(.r y0),(.i y1),(.i (qk .i64 y2 1))]))) .fail) .fail) (.leaf (1,[]))):=by kernel_rfl
theorem qsY(x0:R):qW [.r x0]=(let r0:TR:=(qf q2p [(.r x0),(.i (qh x0)),(.i 0)])
 .br (okR r0) (.br (jIs r0 0) (.leaf (0,[(.i 0)])) (.leaf (0,[(.i (gI r0 0))]))) .fail):=by kernel_rfl
theorem qkj(x0:List UInt8)(x1:List UInt8):uQ [.s x0,.s x1]=(let r0:TR:=(qI [(.s x0),(.s x1)])
 .br (okR r0) (.leaf (0,[(.b (gB r0 0))])) .fail):=by kernel_rfl
theorem qsx(x0:List UInt8)(x1:List UInt8):q2t [.s x0,.s x1]=(.br (seq x1 [49]) (.leaf (0,[(.s x0)])) (.br (ile ((qt x0)+(qt [47])) 140737488355328) (.br (ile ((qt (qeY x0 [47]))+(qt x1)) 140737488355328) (.leaf (0,[(.s (qeY (qeY x0 [47]) x1))])) .fail) .fail)):=by kernel_rfl
theorem qt3(x0:List UInt8)(x1:List UInt8):q5u [.s x0,.s x1]=(let r0:TR:=(zX [(.r [[(.s x0)],[(.s x1)]])])
 .br (okR r0) (.br (ine (gI r0 0) 0) (.leaf (0,[(.s []),(.s []),(.i (gI r0 0))])) (.br (seq x1 [48]) (.leaf (0,[(.s []),(.s []),(.i 10)])) (let r1:TR:=(uj [(.s x0),(.s x1)])
 .br (okR r1) (.br (gB r1 2) (.br (ine (gI r1 1) 0) (.br (ine (gI r1 1) 0) (.br (ine (q83 (gI r1 0) (gI r1 1)) 0) (.br (not (beq (ilt (q83 (gI r1 0) (gI r1 1)) 0) (ilt (gI r1 1) 0))) (let r2:TR:=(zt [(.i (qA .i64 (yi .i64 (gI r1 0) (gI r1 1)) 1))])
 .br (okR r2) (let r3:TR:=(zt [(.i (qk .i64 (q83 (gI r1 0) (gI r1 1)) (gI r1 1)))])
 .br (okR r3) (.leaf (0,[(.s (gS r2 0)),(.s (gS r3 0)),(.i 0)])) .fail) .fail) (let r2:TR:=(zt [(.i (yi .i64 (gI r1 0) (gI r1 1)))])
 .br (okR r2) (let r3:TR:=(zt [(.i (q83 (gI r1 0) (gI r1 1)))])
 .br (okR r3) (.leaf (0,[(.s (gS r2 0)),(.s (gS r3 0)),(.i 0)])) .fail) .fail)) (let r2:TR:=(zt [(.i (yi .i64 (gI r1 0) (gI r1 1)))])
 .br (okR r2) (let r3:TR:=(zt [(.i (q83 (gI r1 0) (gI r1 1)))])
 .br (okR r3) (.leaf (0,[(.s (gS r2 0)),(.s (gS r3 0)),(.i 0)])) .fail) .fail)) .fail) .fail) (let r2:TR:=(zz [(.s x0)])
 .br (okR r2) (let r3:TR:=(zz [(.s x1)])
 .br (okR r3) (let r4:TR:=(vj [(.b (gB r2 0)),(.i (gI r2 1)),(.r (gR r2 2)),(.b (gB r3 0)),(.i (gI r3 1)),(.r (gR r3 2))])
 .br (okR r4) (.br (ilt 0 (gI r4 10)) (.br (not (beq (gB r4 0) (gB r4 3))) (let r5:TR:=(wK [(.b true),(.i (gI r4 7)),(.r (gR r4 8)),(.b true),(.i 1),(.r (q6D (q4U 232 [(.i 0)]) 0 0 [(.i 1)]))])
 .br (okR r5) (let r6:TR:=(wK [(.b (gB r4 0)),(.i (gI r4 10)),(.r (gR r4 11)),(.b (gB r4 3)),(.i (gI r4 4)),(.r (gR r4 5))])
 .br (okR r6) (let r7:TR:=(qL [(.b (gB r5 0)),(.i (gI r5 1)),(.r (gR r5 2))])
 .br (okR r7) (let r8:TR:=(qL [(.b (gB r6 0)),(.i (gI r6 1)),(.r (gR r6 2))])
 .br (okR r8) (.leaf (0,[(.s (gS r7 0)),(.s (gS r8 0)),(.i 0)])) .fail) .fail) .fail) .fail) (let r5:TR:=(qL [(.b (not (beq (gB r4 0) (gB r4 3)))),(.i (gI r4 7)),(.r (gR r4 8))])
 .br (okR r5) (let r6:TR:=(qL [(.b (gB r4 0)),(.i (gI r4 10)),(.r (gR r4 11))])
 .br (okR r6) (.leaf (0,[(.s (gS r5 0)),(.s (gS r6 0)),(.i 0)])) .fail) .fail)) (let r5:TR:=(qL [(.b (not (beq (gB r4 0) (gB r4 3)))),(.i (gI r4 7)),(.r (gR r4 8))])
 .br (okR r5) (let r6:TR:=(qL [(.b (gB r4 0)),(.i (gI r4 10)),(.r (gR r4 11))])
 .br (okR r6) (.leaf (0,[(.s (gS r5 0)),(.s (gS r6 0)),(.i 0)])) .fail) .fail)) .fail) .fail) .fail)) .fail))) .fail):=by kernel_rfl
theorem qxo(x0:List UInt8)(x1:List UInt8):q8u [.s x0,.s x1]=(let r0:TR:=(q5u [(.s x0),(.s x1)])
 .br (okR r0) (.br (ine (gI r0 2) 0) (.leaf (0,[(.s []),(.i (gI r0 2))])) (let r1:TR:=(qQ [(.s (gS r0 0))])
 .br (okR r1) (.br (ine (gI r1 0) 0) (.leaf (0,[(.s []),(.i (gI r1 0))])) (.leaf (0,[(.s (gS r0 0)),(.i 0)]))) .fail)) .fail):=by kernel_rfl
theorem qda(x0:List UInt8)(x1:List UInt8)(x2:Int):wZ [.s x0,.s x1,.i x2]=(.br (ine x2 0) (.leaf (0,[(.s [48]),(.i x2)])) (let r0:TR:=(q3N [(.s x0),(.s x1)])
 .br (okR r0) (.br (ine (gI r0 1) 0) (.leaf (0,[(.s [48]),(.i (gI r0 1))])) (.leaf (0,[(.s (gS r0 0)),(.i (gI r0 1))]))) .fail)):=by kernel_rfl
theorem qd9(x0:List UInt8)(x1:List UInt8)(x2:Int):qX [.s x0,.s x1,.i x2]=(.br (ine x2 0) (.leaf (0,[(.s [48]),(.i x2)])) (let r0:TR:=(q8u [(.s x0),(.s x1)])
 .br (okR r0) (.br (ine (gI r0 1) 0) (.leaf (0,[(.s [48]),(.i (gI r0 1))])) (.leaf (0,[(.s (gS r0 0)),(.i (gI r0 1))]))) .fail)):=by kernel_rfl
theorem qkb(x0:List UInt8)(x1:List UInt8)(x2:Int):qG [.s x0,.s x1,.i x2]=(let r0:TR:=(wZ [(.s x0),(.s x1),(.i x2)])
 .br (okR r0) (let r1:TR:=(uQ [(.s x1),(.s [45])])
 .br (okR r1) (.br (gB r1 0) (let r2:TR:=(zq [(.s [48]),(.s (gS r0 0)),(.i (gI r0 1))])
 .br (okR r2) (.br (ine (gI r2 1) 0) (.leaf (0,[(.s []),(.i (gI r2 1))])) (let r3:TR:=(qX [(.s x0),(.s (gS r2 0)),(.i (gI r2 1))])
 .br (okR r3) (let r4:TR:=(qX [(.s x1),(.s (gS r2 0)),(.i (gI r3 1))])
 .br (okR r4) (let r5:TR:=(q2t [(.s (gS r3 0)),(.s (gS r4 0))])
 .br (okR r5) (.leaf (0,[(.s (gS r5 0)),(.i (gI r4 1))])) .fail) .fail) .fail)) .fail) (.br (ine (gI r0 1) 0) (.leaf (0,[(.s []),(.i (gI r0 1))])) (let r2:TR:=(qX [(.s x0),(.s (gS r0 0)),(.i (gI r0 1))])
 .br (okR r2) (let r3:TR:=(qX [(.s x1),(.s (gS r0 0)),(.i (gI r2 1))])
 .br (okR r3) (let r4:TR:=(q2t [(.s (gS r2 0)),(.s (gS r3 0))])
 .br (okR r4) (.leaf (0,[(.s (gS r4 0)),(.i (gI r3 1))])) .fail) .fail) .fail))) .fail) .fail):=by kernel_rfl
theorem qer(x0:List UInt8)(x1:List UInt8):vK [.s x0,.s x1]=(let r0:TR:=(qW [(.r [[(.s x0)],[(.s x1)]])])
 .br (okR r0) (.br (ine (gI r0 0) 0) (.leaf (0,[(.s []),(.i (gI r0 0))])) (let r1:TR:=(qT [(.s x0)])
 .br (okR r1) (let r2:TR:=(qT [(.s x1)])
 .br (okR r2) (let r3:TR:=(q4D [(.s (gS r1 0)),(.s (gS r1 1)),(.s (gS r2 0)),(.s (gS r2 1)),(.i 0)])
 .br (okR r3) (.br (ine (gI r3 2) 0) (.leaf (0,[(.s []),(.i (gI r3 2))])) (.br (seq (gS r3 1) [48]) (.leaf (0,[(.s []),(.i 10)])) (let r4:TR:=(qG [(.s (gS r3 0)),(.s (gS r3 1)),(.i (gI r3 2))])
 .br (okR r4) (.leaf (0,[(.s (gS r4 0)),(.i (gI r4 1))])) .fail))) .fail) .fail) .fail)) .fail):=by kernel_rfl
theorem qyZ(x0:List UInt8)(x1:List UInt8):q8e [.s x0,.s x1]=(let r0:TR:=(vK [(.s x0),(.s x1)])
 .br (okR r0) (.leaf (0,[(.s (gS r0 0)),(.i (gI r0 1))])) .fail):=by kernel_rfl
theorem qdc(x0:List UInt8)(x1:List UInt8)(x2:Int):v8 [.s x0,.s x1,.i x2]=(.br (ine x2 0) (.leaf (0,[(.s [48]),(.i x2)])) (let r0:TR:=(q8e [(.s x0),(.s x1)])
 .br (okR r0) (.br (ine (gI r0 1) 0) (.leaf (0,[(.s [48]),(.i (gI r0 1))])) (.leaf (0,[(.s (gS r0 0)),(.i (gI r0 1))]))) .fail)):=by kernel_rfl
theorem qoD(x0:List UInt8)(x1:List UInt8)(x2:Int):qU [.s x0,.s x1,.i x2]=(let r0:TR:=(v8 [(.s x0),(.s x1),(.i x2)])
 .br (okR r0) (.leaf (0,[(.s (gS r0 0)),(.i (gI r0 1))])) .fail):=by kernel_rfl
theorem qmA(x0:List UInt8)(x1:List UInt8)(x2:List UInt8)(x3:List UInt8)(x4:Int):wI [.s x0,.s x1,.s x2,.s x3,.i x4]=(let r0:TR:=(qU [(.s x0),(.s x2),(.i x4)])
 .br (okR r0) (let r1:TR:=(qU [(.s x1),(.s x3),(.i (gI r0 1))])
 .br (okR r1) (.leaf (0,[(.s (gS r0 0)),(.s (gS r1 0)),(.i (gI r1 1))])) .fail) .fail):=by kernel_rfl
theorem qde(x0:List UInt8)(x1:List UInt8)(x2:Int):vh [.s x0,.s x1,.i x2]=(.br (ine x2 0) (.leaf (0,[(.s [48]),(.i x2)])) (let r0:TR:=(q3j [(.s x0),(.s x1)])
 .br (okR r0) (.br (ine (gI r0 1) 0) (.leaf (0,[(.s [48]),(.i (gI r0 1))])) (.leaf (0,[(.s (gS r0 0)),(.i (gI r0 1))]))) .fail)):=by kernel_rfl
theorem qow(x0:List UInt8)(x1:List UInt8)(x2:Int):yL [.s x0,.s x1,.i x2]=(let r0:TR:=(vh [(.s x0),(.s x1),(.i x2)])
 .br (okR r0) (.leaf (0,[(.s (gS r0 0)),(.i (gI r0 1))])) .fail):=by kernel_rfl
theorem qui(x0:List UInt8)(x1:List UInt8)(x2:List UInt8)(x3:List UInt8)(x4:Int):q4z [.s x0,.s x1,.s x2,.s x3,.i x4]=(let r0:TR:=(qg [(.r [[(.s x0)],[(.s x3)]]),(.i x4)])
 .br (okR r0) (let r1:TR:=(qg [(.r [[(.s x2)],[(.s x1)]]),(.i (gI r0 1))])
 .br (okR r1) (let r2:TR:=(yL [(.s (gS r0 0)),(.s (gS r1 0)),(.i (gI r1 1))])
 .br (okR r2) (let r3:TR:=(qg [(.r [[(.s x1)],[(.s x3)]]),(.i (gI r2 1))])
 .br (okR r3) (.leaf (0,[(.s (gS r2 0)),(.s (gS r3 0)),(.i (gI r3 1))])) .fail) .fail) .fail) .fail):=by kernel_rfl
theorem qeN(x0:List UInt8)(x1:List UInt8):vH [.s x0,.s x1]=(let r0:TR:=(qW [(.r [[(.s x0)],[(.s x1)]])])
 .br (okR r0) (.br (ine (gI r0 0) 0) (.leaf (0,[(.s []),(.i (gI r0 0))])) (let r1:TR:=(qT [(.s x0)])
 .br (okR r1) (let r2:TR:=(qT [(.s x1)])
 .br (okR r2) (let r3:TR:=(q4z [(.s (gS r1 0)),(.s (gS r1 1)),(.s (gS r2 0)),(.s (gS r2 1)),(.i 0)])
 .br (okR r3) (.br (ine (gI r3 2) 0) (.leaf (0,[(.s []),(.i (gI r3 2))])) (.br (seq (gS r3 1) [48]) (.leaf (0,[(.s []),(.i 10)])) (let r4:TR:=(qG [(.s (gS r3 0)),(.s (gS r3 1)),(.i (gI r3 2))])
 .br (okR r4) (.leaf (0,[(.s (gS r4 0)),(.i (gI r4 1))])) .fail))) .fail) .fail) .fail)) .fail):=by kernel_rfl
theorem qyl(x0:List UInt8)(x1:List UInt8):q8H [.s x0,.s x1]=(let r0:TR:=(vH [(.s x0),(.s x1)])
 .br (okR r0) (.leaf (0,[(.s (gS r0 0)),(.i (gI r0 1))])) .fail):=by kernel_rfl
theorem qdb(x0:List UInt8)(x1:List UInt8)(x2:Int):vg [.s x0,.s x1,.i x2]=(.br (ine x2 0) (.leaf (0,[(.s [48]),(.i x2)])) (let r0:TR:=(q8H [(.s x0),(.s x1)])
 .br (okR r0) (.br (ine (gI r0 1) 0) (.leaf (0,[(.s [48]),(.i (gI r0 1))])) (.leaf (0,[(.s (gS r0 0)),(.i (gI r0 1))]))) .fail)):=by kernel_rfl
theorem qoO(x0:List UInt8)(x1:List UInt8)(x2:Int):zI [.s x0,.s x1,.i x2]=(let r0:TR:=(vg [(.s x0),(.s x1),(.i x2)])
 .br (okR r0) (.leaf (0,[(.s (gS r0 0)),(.i (gI r0 1))])) .fail):=by kernel_rfl
theorem quJ(x0:List UInt8)(x1:List UInt8)(x2:List UInt8)(x3:List UInt8)(x4:Int):q4E [.s x0,.s x1,.s x2,.s x3,.i x4]=(let r0:TR:=(qg [(.r [[(.s x0)],[(.s x2)]]),(.i x4)])
 .br (okR r0) (let r1:TR:=(qg [(.r [[(.s x1)],[(.s x3)]]),(.i (gI r0 1))])
 .br (okR r1) (.leaf (0,[(.s (gS r0 0)),(.s (gS r1 0)),(.i (gI r1 1))])) .fail) .fail):=by kernel_rfl
theorem qeH(x0:List UInt8)(x1:List UInt8):vQ [.s x0,.s x1]=(let r0:TR:=(qW [(.r [[(.s x0)],[(.s x1)]])])
 .br (okR r0) (.br (ine (gI r0 0) 0) (.leaf (0,[(.s []),(.i (gI r0 0))])) (let r1:TR:=(qT [(.s x0)])
 .br (okR r1) (let r2:TR:=(qT [(.s x1)])
 .br (okR r2) (let r3:TR:=(q4E [(.s (gS r1 0)),(.s (gS r1 1)),(.s (gS r2 0)),(.s (gS r2 1)),(.i 0)])
 .br (okR r3) (.br (ine (gI r3 2) 0) (.leaf (0,[(.s []),(.i (gI r3 2))])) (.br (seq (gS r3 1) [48]) (.leaf (0,[(.s []),(.i 10)])) (let r4:TR:=(qG [(.s (gS r3 0)),(.s (gS r3 1)),(.i (gI r3 2))])
 .br (okR r4) (.leaf (0,[(.s (gS r4 0)),(.i (gI r4 1))])) .fail))) .fail) .fail) .fail)) .fail):=by kernel_rfl
theorem qyU(x0:List UInt8)(x1:List UInt8):q8t [.s x0,.s x1]=(let r0:TR:=(vQ [(.s x0),(.s x1)])
 .br (okR r0) (.leaf (0,[(.s (gS r0 0)),(.i (gI r0 1))])) .fail):=by kernel_rfl
theorem qdg(x0:List UInt8)(x1:List UInt8)(x2:Int):wY [.s x0,.s x1,.i x2]=(.br (ine x2 0) (.leaf (0,[(.s [48]),(.i x2)])) (let r0:TR:=(q8t [(.s x0),(.s x1)])
 .br (okR r0) (.br (ine (gI r0 1) 0) (.leaf (0,[(.s [48]),(.i (gI r0 1))])) (.leaf (0,[(.s (gS r0 0)),(.i (gI r0 1))]))) .fail)):=by kernel_rfl
theorem qpk(x0:List UInt8)(x1:List UInt8)(x2:Int):qZ [.s x0,.s x1,.i x2]=(let r0:TR:=(wY [(.s x0),(.s x1),(.i x2)])
 .br (okR r0) (.leaf (0,[(.s (gS r0 0)),(.i (gI r0 1))])) .fail):=by kernel_rfl
theorem qoM(x0:List UInt8)(x1:List UInt8)(x2:List UInt8)(x3:List UInt8)(x4:Int):zH [.s x0,.s x1,.s x2,.s x3,.i x4]=(let r0:TR:=(qZ [(.s x0),(.s x2),(.i x4)])
 .br (okR r0) (let r1:TR:=(qZ [(.s x1),(.s x3),(.i (gI r0 1))])
 .br (okR r1) (let r2:TR:=(zI [(.s (gS r0 0)),(.s (gS r1 0)),(.i (gI r1 1))])
 .br (okR r2) (.leaf (0,[(.s (gS r2 0)),(.i (gI r2 1))])) .fail) .fail) .fail):=by kernel_rfl
theorem qtS(x0:List UInt8)(x1:List UInt8)(x2:List UInt8)(x3:List UInt8)(x4:Int):q4s [.s x0,.s x1,.s x2,.s x3,.i x4]=(let r0:TR:=(qg [(.r [[(.s x0)],[(.s x3)]]),(.i x4)])
 .br (okR r0) (let r1:TR:=(qg [(.r [[(.s x1)],[(.s x2)]]),(.i (gI r0 1))])
 .br (okR r1) (.leaf (0,[(.s (gS r0 0)),(.s (gS r1 0)),(.i (gI r1 1))])) .fail) .fail):=by kernel_rfl
theorem qee(x0:List UInt8)(x1:List UInt8):vJ [.s x0,.s x1]=(let r0:TR:=(qW [(.r [[(.s x0)],[(.s x1)]])])
 .br (okR r0) (.br (ine (gI r0 0) 0) (.leaf (0,[(.s []),(.i (gI r0 0))])) (let r1:TR:=(qT [(.s x0)])
 .br (okR r1) (let r2:TR:=(qT [(.s x1)])
 .br (okR r2) (let r3:TR:=(q4s [(.s (gS r1 0)),(.s (gS r1 1)),(.s (gS r2 0)),(.s (gS r2 1)),(.i 0)])
 .br (okR r3) (.br (ine (gI r3 2) 0) (.leaf (0,[(.s []),(.i (gI r3 2))])) (.br (seq (gS r3 1) [48]) (.leaf (0,[(.s []),(.i 10)])) (let r4:TR:=(qG [(.s (gS r3 0)),(.s (gS r3 1)),(.i (gI r3 2))])
 .br (okR r4) (.leaf (0,[(.s (gS r4 0)),(.i (gI r4 1))])) .fail))) .fail) .fail) .fail)) .fail):=by kernel_rfl
theorem qz6(x0:List UInt8)(x1:List UInt8):q8F [.s x0,.s x1]=(let r0:TR:=(qW [(.r [[(.s x0)],[(.s x1)]])])
 .br (okR r0) (.br (ine (gI r0 0) 0) (.leaf (0,[(.s []),(.i (gI r0 0))])) (.br (seq x1 [48]) (.leaf (0,[(.s []),(.i 10)])) (let r1:TR:=(vJ [(.s x0),(.s x1)])
 .br (okR r1) (.leaf (0,[(.s (gS r1 0)),(.i (gI r1 1))])) .fail))) .fail):=by kernel_rfl
theorem qdh(x0:List UInt8)(x1:List UInt8)(x2:Int):zR [.s x0,.s x1,.i x2]=(.br (ine x2 0) (.leaf (0,[(.s [48]),(.i x2)])) (let r0:TR:=(q8F [(.s x0),(.s x1)])
 .br (okR r0) (.br (ine (gI r0 1) 0) (.leaf (0,[(.s [48]),(.i (gI r0 1))])) (.leaf (0,[(.s (gS r0 0)),(.i (gI r0 1))]))) .fail)):=by kernel_rfl
theorem qln(x0:R)(x1:Int)(x2:Int)(x3:Int)(x4:Int):j1 [.r x0,.i x1,.i x2,.i x3,.i x4]=(.br (inb x1 (qh x0)) (.br (inb x2 (qh x0)) (.br (ieq x1 x2) (.leaf (0,[(.s (cS x0 x1 0)),(.s (cS x0 x1 1)),(.s [48]),(.s [48]),(.s [48]),(.b (ieq x3 0)),(.i x4)])) (let r0:TR:=(wI [(.s (cS x0 x2 0)),(.s (cS x0 x2 1)),(.s (cS x0 x1 0)),(.s (cS x0 x1 1)),(.i x4)])
 .br (okR r0) (let r1:TR:=(zH [(.s (gS r0 0)),(.s (gS r0 1)),(.s (gS r0 0)),(.s (gS r0 1)),(.i (gI r0 2))])
 .br (okR r1) (.br (seq (gS r1 0) [48]) (.leaf (0,[(.s []),(.s []),(.s []),(.s []),(.s []),(.b false),(.i (gI r1 1))])) (let r2:TR:=(zI [(.s (gS r1 0)),(.s (cS x0 x1 2)),(.i (gI r1 1))])
 .br (okR r2) (let r3:TR:=(qU [(.s (gS r2 0)),(.s (cS x0 x2 2)),(.i (gI r2 1))])
 .br (okR r3) (let r4:TR:=(qZ [(.s [50]),(.s (gS r1 0)),(.i (gI r3 1))])
 .br (okR r4) (let r5:TR:=(zR [(.s (gS r3 0)),(.s (gS r4 0)),(.i (gI r4 1))])
 .br (okR r5) (let r6:TR:=(qZ [(.s (gS r5 0)),(.s (gS r0 0)),(.i (gI r5 1))])
 .br (okR r6) (let r7:TR:=(zI [(.s (cS x0 x1 0)),(.s (gS r6 0)),(.i (gI r6 1))])
 .br (okR r7) (let r8:TR:=(qZ [(.s (gS r5 0)),(.s (gS r0 1)),(.i (gI r7 1))])
 .br (okR r8) (let r9:TR:=(zI [(.s (cS x0 x1 1)),(.s (gS r8 0)),(.i (gI r8 1))])
 .br (okR r9) (let r10:TR:=(qU [(.s [48]),(.s (gS r0 1)),(.i (gI r9 1))])
 .br (okR r10) (let r11:TR:=(zR [(.s (cS x0 x1 2)),(.s (gS r1 0)),(.i (gI r10 1))])
 .br (okR r11) (let r12:TR:=(qZ [(.s (gS r5 0)),(.s (gS r5 0)),(.i (gI r11 1))])
 .br (okR r12) (let r13:TR:=(qU [(.s (gS r11 0)),(.s (gS r12 0)),(.i (gI r12 1))])
 .br (okR r13) (.br (ilt x3 0) (let r14:TR:=(qU [(.s [48]),(.s (gS r0 0)),(.i (gI r13 1))])
 .br (okR r14) (.br (ieq (gI r14 1) 0) (.br (inb 0 (qt (gS r13 0))) (.br (ine (sat (gS r13 0) 0) 45) (.leaf (0,[(.s (gS r7 0)),(.s (gS r9 0)),(.s (gS r0 1)),(.s (gS r14 0)),(.s (gS r13 0)),(.b (beq (seq (gS r13 0) [48]) (ieq x3 0))),(.i (gI r14 1))])) (.leaf (0,[(.s (gS r7 0)),(.s (gS r9 0)),(.s (gS r0 1)),(.s (gS r14 0)),(.s (gS r13 0)),(.b false),(.i (gI r14 1))]))) .fail) (.leaf (0,[(.s (gS r7 0)),(.s (gS r9 0)),(.s (gS r0 1)),(.s (gS r14 0)),(.s (gS r13 0)),(.b false),(.i (gI r14 1))]))) .fail) (.br (ieq (gI r13 1) 0) (.br (inb 0 (qt (gS r13 0))) (.br (ine (sat (gS r13 0) 0) 45) (.leaf (0,[(.s (gS r7 0)),(.s (gS r9 0)),(.s (gS r10 0)),(.s (gS r0 0)),(.s (gS r13 0)),(.b (beq (seq (gS r13 0) [48]) (ieq x3 0))),(.i (gI r13 1))])) (.leaf (0,[(.s (gS r7 0)),(.s (gS r9 0)),(.s (gS r10 0)),(.s (gS r0 0)),(.s (gS r13 0)),(.b false),(.i (gI r13 1))]))) .fail) (.leaf (0,[(.s (gS r7 0)),(.s (gS r9 0)),(.s (gS r10 0)),(.s (gS r0 0)),(.s (gS r13 0)),(.b false),(.i (gI r13 1))])))) .fail) .fail) .fail) .fail) .fail) .fail) .fail) .fail) .fail) .fail) .fail) .fail)) .fail) .fail)) .fail) .fail):=by kernel_rfl
theorem qw6(x0:List UInt8):q9D [.s x0]=(let r0:TR:=(qQ [(.s x0)])
 .br (okR r0) (.br (ine (gI r0 0) 0) (.leaf (0,[(.i 0),(.i (gI r0 0))])) (let r1:TR:=(uz [(.s x0)])
 .br (okR r1) (.leaf (0,[(.i (gI r1 0)),(.i 0)])) .fail)) .fail):=by kernel_rfl
theorem qo5(x0:List UInt8)(x1:Int):zu [.s x0,.i x1]=(.br (ine x1 0) (.leaf (0,[(.i 0),(.i x1)])) (let r0:TR:=(q9D [(.s x0)])
 .br (okR r0) (.leaf (0,[(.i (gI r0 0)),(.i (gI r0 1))])) .fail)):=by kernel_rfl
theorem qnd(x0:List UInt8)(x1:List UInt8)(x2:List UInt8)(x3:Int):uF [.s x0,.s x1,.s x2,.i x3]=(let r0:TR:=(zu [(.s x0),(.i x3)])
 .br (okR r0) (let r1:TR:=(zu [(.s x1),(.i (gI r0 1))])
 .br (okR r1) (let r2:TR:=(zu [(.s x2),(.i (gI r1 1))])
 .br (okR r2) (.br (ile 0 (ux .i64 (gI r0 0) (ux .i64 (gI r1 0) (gI r2 0)))) (.br (ine (gI r0 0) 0) (.leaf (0,[(.i (gI r0 0)),(.i (gI r2 1))])) (.leaf (0,[(.i (ux .i64 (gI r1 0) (gI r2 0))),(.i (gI r2 1))]))) (let r3:TR:=(qg [(.r [[(.s x0)],[(.s x0)]]),(.i (gI r2 1))])
 .br (okR r3) (let r4:TR:=(qg [(.r [[(.s x1)],[(.s x1)],[(.s x2)]]),(.i (gI r3 1))])
 .br (okR r4) (let r5:TR:=(zq [(.s (gS r3 0)),(.s (gS r4 0)),(.i (gI r4 1))])
 .br (okR r5) (let r6:TR:=(zu [(.s (gS r5 0)),(.i (gI r5 1))])
 .br (okR r6) (.leaf (0,[(.i (ux .i64 (gI r0 0) (gI r6 0))),(.i (gI r6 1))])) .fail) .fail) .fail) .fail)) .fail) .fail) .fail):=by kernel_rfl
theorem qmr(x0:List UInt8)(x1:List UInt8)(x2:List UInt8)(x3:List UInt8)(x4:List UInt8):q0X [.s x0,.s x1,.s x2,.s x3,.s x4]=(let r0:TR:=(qW [(.r [[(.s x0)],[(.s x1)],[(.s x2)],[(.s x3)],[(.s x4)]])])
 .br (okR r0) (.br (ine (gI r0 0) 0) (.leaf (0,[(.i 0),(.i (gI r0 0))])) (.br (inb 0 (qt x2)) (.br (ieq (sat x2 0) 45) (.leaf (0,[(.i 0),(.i 2)])) (.br (inb 0 (qt x4)) (.br (ieq (sat x4 0) 45) (.leaf (0,[(.i 0),(.i 2)])) (let r1:TR:=(qT [(.s x0)])
 .br (okR r1) (let r2:TR:=(qT [(.s x1)])
 .br (okR r2) (let r3:TR:=(qT [(.s x2)])
 .br (okR r3) (let r4:TR:=(qT [(.s x3)])
 .br (okR r4) (let r5:TR:=(qT [(.s x4)])
 .br (okR r5) (let r6:TR:=(qg [(.r [[(.s (gS r1 0))],[(.s (gS r2 1))],[(.s (gS r3 1))],[(.s (gS r4 1))],[(.s (gS r5 1))]]),(.i 0)])
 .br (okR r6) (let r7:TR:=(qg [(.r [[(.s (gS r2 0))],[(.s (gS r1 1))],[(.s (gS r4 1))],[(.s (gS r5 1))]]),(.i (gI r6 1))])
 .br (okR r7) (let r8:TR:=(qg [(.r [[(.s (gS r3 0))],[(.s (gS r3 1))]]),(.i (gI r7 1))])
 .br (okR r8) (let r9:TR:=(qg [(.r [[(.s (gS r4 0))],[(.s (gS r1 1))],[(.s (gS r2 1))],[(.s (gS r3 1))]]),(.i (gI r8 1))])
 .br (okR r9) (let r10:TR:=(qg [(.r [[(.s (gS r5 0))],[(.s (gS r5 1))]]),(.i (gI r9 1))])
 .br (okR r10) (let r11:TR:=(uF [(.s (gS r6 0)),(.s (gS r7 0)),(.s (gS r8 0)),(.i (gI r10 1))])
 .br (okR r11) (let r12:TR:=(zu [(.s (gS r9 0)),(.i (gI r11 1))])
 .br (okR r12) (let r13:TR:=(zu [(.s (gS r10 0)),(.i (gI r12 1))])
 .br (okR r13) (.br (ile 0 (ux .i64 (gI r11 0) (ux .i64 (gI r12 0) (gI r13 0)))) (.br (ieq (gI r11 0) 0) (.leaf (0,[(.i (ux .i64 (gI r12 0) (gI r13 0))),(.i (gI r13 1))])) (.leaf (0,[(.i (gI r11 0)),(.i (gI r13 1))]))) (let r14:TR:=(qg [(.r [[(.s (gS r6 0))],[(.s (gS r6 0))]]),(.i (gI r13 1))])
 .br (okR r14) (let r15:TR:=(qg [(.r [[(.s (gS r7 0))],[(.s (gS r7 0))],[(.s (gS r8 0))]]),(.i (gI r14 1))])
 .br (okR r15) (let r16:TR:=(yL [(.s (gS r14 0)),(.s (gS r15 0)),(.i (gI r15 1))])
 .br (okR r16) (let r17:TR:=(qg [(.r [[(.s (gS r9 0))],[(.s (gS r9 0))],[(.s (gS r10 0))]]),(.i (gI r16 1))])
 .br (okR r17) (let r18:TR:=(zq [(.s (gS r16 0)),(.s (gS r17 0)),(.i (gI r17 1))])
 .br (okR r18) (let r19:TR:=(qg [(.r [[(.s [50])],[(.s (gS r6 0))],[(.s (gS r7 0))]]),(.i (gI r18 1))])
 .br (okR r19) (let r20:TR:=(uF [(.s (gS r18 0)),(.s (gS r19 0)),(.s (gS r8 0)),(.i (gI r19 1))])
 .br (okR r20) (.br (ine (gI r20 1) 0) (.leaf (0,[(.i 0),(.i (gI r20 1))])) (.leaf (0,[(.i (ux .i64 (gI r11 0) (gI r20 0))),(.i 0)]))) .fail) .fail) .fail) .fail) .fail) .fail) .fail)) .fail) .fail) .fail) .fail) .fail) .fail) .fail) .fail) .fail) .fail) .fail) .fail) .fail)) .fail)) .fail)) .fail):=by kernel_rfl
theorem qoW(x0:List UInt8)(x1:List UInt8)(x2:List UInt8):q2r [.s x0,.s x1,.s x2]=(let r0:TR:=(q0X [(.s x0),(.s x1),(.s x2),(.s [48]),(.s [48])])
 .br (okR r0) (.leaf (0,[(.i (gI r0 0)),(.i (gI r0 1))])) .fail):=by kernel_rfl
theorem qo4(x0:List UInt8)(x1:List UInt8)(x2:List UInt8)(x3:Int):ju [.s x0,.s x1,.s x2,.i x3]=(.br (ine x3 0) (.leaf (0,[(.i 0),(.i x3)])) (let r0:TR:=(q2r [(.s x0),(.s x1),(.s x2)])
 .br (okR r0) (.leaf (0,[(.i (gI r0 0)),(.i (gI r0 1))])) .fail)):=by kernel_rfl
theorem qlT(x0:List UInt8)(x1:List UInt8)(x2:List UInt8)(x3:List UInt8)(x4:List UInt8)(x5:List UInt8)(x6:List UInt8)(x7:List UInt8)(x8:Int):yH [.s x0,.s x1,.s x2,.s x3,.s x4,.s x5,.s x6,.s x7,.i x8]=(let r0:TR:=(wI [(.s x3),(.s x4),(.s x0),(.s x1),(.i x8)])
 .br (okR r0) (let r1:TR:=(zH [(.s (gS r0 0)),(.s (gS r0 1)),(.s (gS r0 0)),(.s (gS r0 1)),(.i (gI r0 2))])
 .br (okR r1) (let r2:TR:=(zH [(.s x5),(.s x6),(.s x5),(.s x6),(.i (gI r1 1))])
 .br (okR r2) (let r3:TR:=(qZ [(.s x7),(.s (gS r2 0)),(.i (gI r2 1))])
 .br (okR r3) (let r4:TR:=(zI [(.s (gS r1 0)),(.s (gS r3 0)),(.i (gI r3 1))])
 .br (okR r4) (let r5:TR:=(qU [(.s (gS r4 0)),(.s x2),(.i (gI r4 1))])
 .br (okR r5) (let r6:TR:=(zH [(.s (gS r0 0)),(.s (gS r0 1)),(.s x5),(.s x6),(.i (gI r5 1))])
 .br (okR r6) (let r7:TR:=(qZ [(.s [50]),(.s (gS r6 0)),(.i (gI r6 1))])
 .br (okR r7) (let r8:TR:=(ju [(.s (gS r5 0)),(.s (gS r7 0)),(.s x7),(.i (gI r7 1))])
 .br (okR r8) (.leaf (0,[(.b (ile (gI r8 0) 0)),(.i (gI r8 1))])) .fail) .fail) .fail) .fail) .fail) .fail) .fail) .fail) .fail):=by kernel_rfl
theorem kr(y0:R)(y1:Int)(y2:Int)(y3:R)(y4:R)(y5:R)(y6:Int)(y7:Int)(y8:Int)(y9:Bool)(y10:List UInt8)(y11:List UInt8)(y12:List UInt8)(y13:List UInt8)(y14:List UInt8)(y15:Bool)(y16:R)(y17:Int)(y18:Int)(y19:Int)(y20:List UInt8)(y21:List UInt8)(y22:List UInt8)(y23:List UInt8)(y24:List UInt8)(y25:Bool)(y26:List UInt8)(y27:List UInt8)(y28:List UInt8)(y29:List UInt8)(y30:List UInt8)(y31:Bool)(y32:Bool)(y33:R)(y34:Int)(y35:Int)(y36:Int)(y37:Int)(y38:List UInt8)(y39:List UInt8)(y40:List UInt8)(y41:List UInt8)(y42:List UInt8):vb [.r y0,.i y1,.i y2,.r y3,.r y4,.r y5,.i y6,.i y7,.i y8,.b y9,.s y10,.s y11,.s y12,.s y13,.s y14,.b y15,.r y16,.i y17,.i y18,.i y19,.s y20,.s y21,.s y22,.s y23,.s y24,.b y25,.s y26,.s y27,.s y28,.s y29,.s y30,.b y31,.b y32,.r y33,.i y34,.i y35,.i y36,.i y37,.s y38,.s y39,.s y40,.s y41,.s y42]=(.br (ilt y2 y1) (.br (inb y2 (qh y0)) (let r0:TR:=(yH [(.s (cS y0 y2 0)),(.s (cS y0 y2 1)),(.s (cS y0 y2 2)),(.s y38),(.s y39),(.s y40),(.s y41),(.s y42),(.i y34)])
 .br (okR r0) (.br (not (gB r0 0)) (.leaf (2,[(.i y2),(.r y3),(.r y4),(.r y5),(.i y6),(.i y7),(.i y8),(.b y9),(.s y10),(.s y11),(.s y12),(.s y13),(.s y14),(.b y15),(.r y16),(.i y17),(.i y18),(.i y19),(.s y20),(.s y21),(.s y22),(.s y23),(.s y24),(.b y25),(.s y26),(.s y27),(.s y28),(.s y29),(.s y30),(.b y31),(.b y32),(.r y33),(.i (gI r0 1)),(.i y35),(.i y36),(.i y37),(.s y38),(.s y39),(.s y40),(.s y41),(.s y42)])) (.leaf (0,[(.r y0),(.i y1),(.i (qk .i64 y2 1)),(.r y3),(.r y4),(.r y5),(.i y6),(.i y7),(.i y8),(.b y9),(.s y10),(.s y11),(.s y12),(.s y13),(.s y14),(.b y15),(.r y16),(.i y17),(.i y18),(.i y19),(.s y20),(.s y21),(.s y22),(.s y23),(.s y24),(.b y25),(.s y26),(.s y27),(.s y28),(.s y29),(.s y30),(.b y31),(.b y32),(.r y33),(.i (gI r0 1)),(.i y35),(.i y36),(.i y37),(.s y38),(.s y39),(.s y40),(.s y41),(.s y42)]))) .fail) .fail) (.leaf (1,[(.r y3),(.r y4),(.r y5),(.i y6),(.i y7),(.i y8),(.b y9),(.s y10),(.s y11),(.s y12),(.s y13),(.s y14),(.b y15),(.r y16),(.i y17),(.i y18),(.i y19),(.s y20),(.s y21),(.s y22),(.s y23),(.s y24),(.b y25),(.s y26),(.s y27),(.s y28),(.s y29),(.s y30),(.b y31),(.b y32),(.r y33),(.i y34),(.i y35),(.i y36),(.i y37),(.s y38),(.s y39),(.s y40),(.s y41),(.s y42)]))):=by kernel_rfl
theorem qk5(x0:R)(x1:Int)(x2:Int)(x3:Int)(x4:Int):qS [.r x0,.i x1,.i x2,.i x3,.i x4]=(let r0:TR:=(j1 [(.r x0),(.i x1),(.i x2),(.i x3),(.i x4)])
 .br (okR r0) (.br (gB r0 5) (let r1:TR:=(qf vb [(.r x0),(.i (qh x0)),(.i 0),(.r x0),(.r x0),(.r x0),(.i x1),(.i x2),(.i x3),(.b (gB r0 5)),(.s (gS r0 0)),(.s (gS r0 1)),(.s (gS r0 2)),(.s (gS r0 3)),(.s (gS r0 4)),(.b (gB r0 5)),(.r x0),(.i x1),(.i x2),(.i x3),(.s (gS r0 0)),(.s (gS r0 1)),(.s (gS r0 2)),(.s (gS r0 3)),(.s (gS r0 4)),(.b (gB r0 5)),(.s (gS r0 0)),(.s (gS r0 1)),(.s (gS r0 2)),(.s (gS r0 3)),(.s (gS r0 4)),(.b (gB r0 5)),(.b (gB r0 5)),(.r x0),(.i (gI r0 6)),(.i x1),(.i x2),(.i x3),(.s (gS r0 0)),(.s (gS r0 1)),(.s (gS r0 2)),(.s (gS r0 3)),(.s (gS r0 4))])
 .br (okR r1) (.br (jIs r1 0) (.leaf (0,[(.b (ieq (gI r1 31) 0)),(.i (gI r1 31))])) (.br (not (ile 0 (gI r1 0))) (.leaf (0,[(.b (ieq (gI r1 32) 0)),(.i (gI r1 32))])) (.leaf (0,[(.b false),(.i (gI r1 32))])))) .fail) (.leaf (0,[(.b false),(.i (gI r0 6))]))) .fail):=by kernel_rfl
theorem q5x(y0:Int)(y1:Int)(y2:Int)(y3:R)(y4:Int)(y5:Int)(y6:Int)(y7:Bool)(y8:Int):vG [.i y0,.i y1,.i y2,.r y3,.i y4,.i y5,.i y6,.b y7,.i y8]=(.br (ilt y1 y0) (let r0:TR:=(qS [(.r y3),(.i y1),(.i y1),(.i 0),(.i y2)])
 .br (okR r0) (.br (gB r0 0) (.leaf (2,[(.i (gI r0 1)),(.r y3),(.i y1),(.i y1),(.i 0),(.b true),(.i y8)])) (.leaf (0,[(.i y0),(.i (qk .i64 y1 1)),(.i (gI r0 1)),(.r y3),(.i y4),(.i y5),(.i y6),(.b y7),(.i y8)]))) .fail) (.leaf (1,[(.i y2),(.r y3),(.i y4),(.i y5),(.i y6),(.b y7),(.i y8)]))):=by kernel_rfl
theorem q4J(y0:Int)(y1:Int)(y2:Int)(y3:Int)(y4:Int)(y5:Int)(y6:Int)(y7:R)(y8:Int)(y9:Int)(y10:Int)(y11:Bool)(y12:Int)(y13:R):vl [.i y0,.i y1,.i y2,.i y3,.i y4,.i y5,.i y6,.r y7,.i y8,.i y9,.i y10,.b y11,.i y12,.r y13]=(.br (ilt y5 y4) (.br (inb y5 (qh y13)) (let r0:TR:=(qS [(.r y7),(.i y0),(.i y1),(.i (cI y13 y5 0)),(.i y6)])
 .br (okR r0) (.br (gB r0 0) (.leaf (2,[(.i (gI r0 1)),(.r y7),(.i y0),(.i y1),(.i (cI y13 y5 0)),(.b true),(.i y12)])) (.leaf (0,[(.i y0),(.i y1),(.i y2),(.i y3),(.i y4),(.i (qk .i64 y5 1)),(.i (gI r0 1)),(.r y7),(.i y8),(.i y9),(.i y10),(.b y11),(.i y12),(.r y13)]))) .fail) .fail) (.leaf (1,[(.i y0),(.i y1),(.i y2),(.i y3),(.i y6),(.r y7),(.i y8),(.i y9),(.i y10),(.b y11),(.i y12)]))):=by kernel_rfl
theorem q4K(y0:Int)(y1:Int)(y2:Int)(y3:Int)(y4:Int)(y5:R)(y6:Int)(y7:Int)(y8:Int)(y9:Bool)(y10:Int):vn [.i y0,.i y1,.i y2,.i y3,.i y4,.r y5,.i y6,.i y7,.i y8,.b y9,.i y10]=(.br (ilt y1 y10) (let r0:TR:=(qf vl [(.i y0),(.i y1),(.i y2),(.i y3),(.i (qh [[(.i 0)],[(.i 1)],[(.i (-1))]])),(.i 0),(.i y4),(.r y5),(.i y6),(.i y7),(.i y8),(.b y9),(.i y10),(.r [[(.i 0)],[(.i 1)],[(.i (-1))]])])
 .br (okR r0) (.br (jIs r0 0) (.leaf (0,[(.i (gI r0 0)),(.i (qk .i64 (gI r0 1) 1)),(.i (gI r0 2)),(.i (gI r0 3)),(.i (gI r0 4)),(.r (gR r0 5)),(.i (gI r0 6)),(.i (gI r0 7)),(.i (gI r0 8)),(.b (gB r0 9)),(.i (gI r0 10))])) (.leaf (2,[(.i (gI r0 0)),(.r (gR r0 1)),(.i (gI r0 2)),(.i (gI r0 3)),(.i (gI r0 4)),(.b (gB r0 5)),(.i (gI r0 6))]))) .fail) (.leaf (1,[(.i y2),(.i y3),(.i y4),(.r y5),(.i y6),(.i y7),(.i y8),(.b y9),(.i y10)]))):=by kernel_rfl
theorem q5e(y0:Int)(y1:Int)(y2:Int)(y3:R)(y4:Int)(y5:Int)(y6:Int)(y7:Bool)(y8:Int):vL [.i y0,.i y1,.i y2,.r y3,.i y4,.i y5,.i y6,.b y7,.i y8]=(.br (ilt y1 y0) (let r0:TR:=(qf vn [(.i y1),(.i (qk .i64 y1 1)),(.i y0),(.i y1),(.i y2),(.r y3),(.i y4),(.i y5),(.i y6),(.b y7),(.i y8)])
 .br (okR r0) (.br (jIs r0 0) (.leaf (0,[(.i (gI r0 0)),(.i (qk .i64 (gI r0 1) 1)),(.i (gI r0 2)),(.r (gR r0 3)),(.i (gI r0 4)),(.i (gI r0 5)),(.i (gI r0 6)),(.b (gB r0 7)),(.i (gI r0 8))])) (.leaf (2,[(.i (gI r0 0)),(.r (gR r0 1)),(.i (gI r0 2)),(.i (gI r0 3)),(.i (gI r0 4)),(.b (gB r0 5)),(.i (gI r0 6))]))) .fail) (.leaf (1,[(.i y2),(.r y3),(.i y4),(.i y5),(.i y6),(.b y7),(.i y8)]))):=by kernel_rfl
theorem qlK(x0:R)(x1:Int):qH [.r x0,.i x1]=(let r0:TR:=(qf vG [(.i (qh x0)),(.i 0),(.i x1),(.r x0),(.i 0),(.i 0),(.i 0),(.b false),(.i (qh x0))])
 .br (okR r0) (.br (jIs r0 0) (let r1:TR:=(qf vL [(.i (gI r0 6)),(.i 0),(.i (gI r0 0)),(.r (gR r0 1)),(.i (gI r0 2)),(.i (gI r0 3)),(.i (gI r0 4)),(.b (gB r0 5)),(.i (gI r0 6))])
 .br (okR r1) (.br (jIs r1 0) (.leaf (0,[(.i 0),(.i 0),(.i 0),(.b false),(.i (gI r1 0))])) (.leaf (0,[(.i (gI r1 2)),(.i (gI r1 3)),(.i (gI r1 4)),(.b (gB r1 5)),(.i (gI r1 0))]))) .fail) (.leaf (0,[(.i (gI r0 2)),(.i (gI r0 3)),(.i (gI r0 4)),(.b (gB r0 5)),(.i (gI r0 0))]))) .fail):=by kernel_rfl
theorem q1A(y0:Int)(y1:Int)(y2:Int)(y3:Int)(y4:Int)(y5:Int)(y6:Int)(y7:R)(y8:Int)(y9:Int)(y10:Int)(y11:R)(y12:Int)(y13:R)(y14:R):zd [.i y0,.i y1,.i y2,.i y3,.i y4,.i y5,.i y6,.r y7,.i y8,.i y9,.i y10,.r y11,.i y12,.r y13,.r y14]=(.br (ilt y1 y0) (.br (inb y1 (qh y13)) (.br (inb (cI y13 y1 0) (qh y11)) (.br (ile ((qh y14)+(qh [[(.s (cS y11 (cI y13 y1 0) 0)),(.s (cS y11 (cI y13 y1 0) 1)),(.s (cS y11 (cI y13 y1 0) 2))]])) 2932031007402) (.leaf (0,[(.i y0),(.i (qk .i64 y1 1)),(.i y2),(.i y3),(.i y4),(.i y5),(.i y6),(.r y7),(.i y8),(.i y9),(.i y10),(.r y11),(.i y12),(.r y13),(.r (qdX y14 [[(.s (cS y11 (cI y13 y1 0) 0)),(.s (cS y11 (cI y13 y1 0) 1)),(.s (cS y11 (cI y13 y1 0) 2))]]))])) .fail) .fail) .fail) (.leaf (1,[(.i y2),(.i y3),(.i y4),(.i y5),(.i y6),(.r y7),(.i y8),(.i y9),(.i y10),(.r y11),(.i y12),(.r y13),(.r y14)]))):=by kernel_rfl
theorem q5b(y0:Int)(y1:Int)(y2:Int)(y3:Int)(y4:R)(y5:Int):vM [.i y0,.i y1,.i y2,.i y3,.r y4,.i y5]=(.br (ilt y1 (qh y4)) (let r0:TR:=(qf zd [(.i (qh [[(.i y0)],[(.i y1)]])),(.i 0),(.i y0),(.i y1),(.i y2),(.i y3),(.i y1),(.r y4),(.i (qh y4)),(.i y0),(.i y1),(.r y4),(.i y5),(.r [[(.i y0)],[(.i y1)]]),(.r [])])
 .br (okR r0) (let r1:TR:=(qH [(.r (gR r0 12)),(.i (gI r0 10))])
 .br (okR r1) (.br (not (gB r1 3)) (.br (ieq (gI r1 4) 0) (.leaf (2,[(.i 0),(.r [[(.i (gI r0 0))],[(.i (gI r0 1))]])])) (.leaf (0,[(.i (gI r0 0)),(.i (qk .i64 (gI r0 1) 1)),(.i (gI r0 2)),(.i (gI r0 3)),(.r (gR r0 9)),(.i (gI r1 4))]))) (.leaf (0,[(.i (gI r0 0)),(.i (qk .i64 (gI r0 1) 1)),(.i (gI r0 2)),(.i (gI r0 3)),(.r (gR r0 9)),(.i (gI r1 4))]))) .fail) .fail) (.leaf (1,[(.i y2),(.i y3),(.r y4),(.i y5)]))):=by kernel_rfl
theorem q6y(y0:Int)(y1:Int)(y2:R)(y3:Int):j8 [.i y0,.i y1,.r y2,.i y3]=(.br (ilt y1 y0) (let r0:TR:=(qf vM [(.i y1),(.i (qk .i64 y1 1)),(.i y0),(.i y1),(.r y2),(.i y3)])
 .br (okR r0) (.br (jIs r0 0) (.leaf (0,[(.i (gI r0 0)),(.i (qk .i64 (gI r0 1) 1)),(.r (gR r0 2)),(.i (gI r0 3))])) (.leaf (2,[(.i (gI r0 0)),(.r (gR r0 1))]))) .fail) (.leaf (1,[(.r y2),(.i y3)]))):=by kernel_rfl
theorem q1B(y0:Int)(y1:Int)(y2:Int)(y3:Int)(y4:Int)(y5:Int)(y6:Int)(y7:Int)(y8:R)(y9:Int)(y10:Int)(y11:Int)(y12:Int)(y13:R)(y14:Int)(y15:R)(y16:R):zb [.i y0,.i y1,.i y2,.i y3,.i y4,.i y5,.i y6,.i y7,.r y8,.i y9,.i y10,.i y11,.i y12,.r y13,.i y14,.r y15,.r y16]=(.br (ilt y1 y0) (.br (inb y1 (qh y15)) (.br (inb (cI y15 y1 0) (qh y13)) (.br (ile ((qh y16)+(qh [[(.s (cS y13 (cI y15 y1 0) 0)),(.s (cS y13 (cI y15 y1 0) 1)),(.s (cS y13 (cI y15 y1 0) 2))]])) 2932031007402) (.leaf (0,[(.i y0),(.i (qk .i64 y1 1)),(.i y2),(.i y3),(.i y4),(.i y5),(.i y6),(.i y7),(.r y8),(.i y9),(.i y10),(.i y11),(.i y12),(.r y13),(.i y14),(.r y15),(.r (qdX y16 [[(.s (cS y13 (cI y15 y1 0) 0)),(.s (cS y13 (cI y15 y1 0) 1)),(.s (cS y13 (cI y15 y1 0) 2))]]))])) .fail) .fail) .fail) (.leaf (1,[(.i y2),(.i y3),(.i y4),(.i y5),(.i y6),(.i y7),(.r y8),(.i y9),(.i y10),(.i y11),(.i y12),(.r y13),(.i y14),(.r y15),(.r y16)]))):=by kernel_rfl
theorem q5A(y0:Int)(y1:Int)(y2:Int)(y3:Int)(y4:Int)(y5:R)(y6:Int):vF [.i y0,.i y1,.i y2,.i y3,.i y4,.r y5,.i y6]=(.br (ilt y2 (qh y5)) (let r0:TR:=(qf zb [(.i (qh [[(.i y0)],[(.i y1)],[(.i y2)]])),(.i 0),(.i y0),(.i y1),(.i y2),(.i y3),(.i y4),(.i y2),(.r y5),(.i (qh y5)),(.i y0),(.i y1),(.i y2),(.r y5),(.i y6),(.r [[(.i y0)],[(.i y1)],[(.i y2)]]),(.r [])])
 .br (okR r0) (let r1:TR:=(qH [(.r (gR r0 14)),(.i (gI r0 12))])
 .br (okR r1) (.br (not (gB r1 3)) (.br (ieq (gI r1 4) 0) (.leaf (2,[(.i 0),(.r [[(.i (gI r0 0))],[(.i (gI r0 1))],[(.i (gI r0 2))]])])) (.leaf (0,[(.i (gI r0 0)),(.i (gI r0 1)),(.i (qk .i64 (gI r0 2) 1)),(.i (gI r0 3)),(.i (gI r0 4)),(.r (gR r0 11)),(.i (gI r1 4))]))) (.leaf (0,[(.i (gI r0 0)),(.i (gI r0 1)),(.i (qk .i64 (gI r0 2) 1)),(.i (gI r0 3)),(.i (gI r0 4)),(.r (gR r0 11)),(.i (gI r1 4))]))) .fail) .fail) (.leaf (1,[(.i y0),(.i y1),(.i y3),(.i y4),(.r y5),(.i y6)]))):=by kernel_rfl
theorem q5n(y0:Int)(y1:Int)(y2:Int)(y3:Int)(y4:R)(y5:Int):vR [.i y0,.i y1,.i y2,.i y3,.r y4,.i y5]=(.br (ilt y1 (qh y4)) (let r0:TR:=(qf vF [(.i y0),(.i y1),(.i (qk .i64 y1 1)),(.i y2),(.i y3),(.r y4),(.i y5)])
 .br (okR r0) (.br (jIs r0 0) (.leaf (0,[(.i (gI r0 0)),(.i (qk .i64 (gI r0 1) 1)),(.i (gI r0 2)),(.i (gI r0 3)),(.r (gR r0 4)),(.i (gI r0 5))])) (.leaf (2,[(.i (gI r0 0)),(.r (gR r0 1))]))) .fail) (.leaf (1,[(.i y2),(.i y3),(.r y4),(.i y5)]))):=by kernel_rfl
theorem q5z(y0:Int)(y1:Int)(y2:R)(y3:Int):vP [.i y0,.i y1,.r y2,.i y3]=(.br (ilt y1 y0) (let r0:TR:=(qf vR [(.i y1),(.i (qk .i64 y1 1)),(.i y0),(.i y1),(.r y2),(.i y3)])
 .br (okR r0) (.br (jIs r0 0) (.leaf (0,[(.i (gI r0 0)),(.i (qk .i64 (gI r0 1) 1)),(.r (gR r0 2)),(.i (gI r0 3))])) (.leaf (2,[(.i (gI r0 0)),(.r (gR r0 1))]))) .fail) (.leaf (1,[(.i y3)]))):=by kernel_rfl
theorem qi7(x0:R):ye [.r x0]=(let r0:TR:=(zx [(.r x0)])
 .br (okR r0) (.br (ine (gI r0 0) 0) (.leaf (0,[(.r []),(.i (gI r0 0))])) (let r1:TR:=(qf j8 [(.i (qh x0)),(.i 0),(.r x0),(.i 0)])
 .br (okR r1) (.br (jIs r1 0) (let r2:TR:=(qf vP [(.i (qh (gR r1 0))),(.i 0),(.r (gR r1 0)),(.i (gI r1 1))])
 .br (okR r2) (.br (jIs r2 0) (.leaf (0,[(.r []),(.i (gI r2 0))])) (.leaf (0,[(.r (gR r2 1)),(.i (gI r2 0))]))) .fail) (.leaf (0,[(.r (gR r1 1)),(.i (gI r1 0))]))) .fail)) .fail):=by kernel_rfl
theorem qsO(x0:R):q0s [.r x0]=(let r0:TR:=(zx [(.r x0)])
 .br (okR r0) (.br (ine (gI r0 0) 0) (.leaf (0,[(.b false),(.i 0),(.i 0),(.i 0),(.i (gI r0 0))])) (let r1:TR:=(qH [(.r x0),(.i 0)])
 .br (okR r1) (.br (ine (gI r1 4) 0) (.leaf (0,[(.b false),(.i 0),(.i 0),(.i 0),(.i (gI r1 4))])) (.leaf (0,[(.b (gB r1 3)),(.i (gI r1 0)),(.i (gI r1 1)),(.i (gI r1 2)),(.i 0)]))) .fail)) .fail):=by kernel_rfl
theorem q5k(y0:R)(y1:R)(y2:Int)(y3:Int):vO [.r y0,.r y1,.i y2,.i y3]=(.br (ilt y3 y2) (.br (inb y3 (qh y0)) (.br (inb y3 (qh y1)) (.br (ine (cI y0 y3 0) (cI y1 y3 0)) (.leaf (2,[(.b false)])) (.leaf (0,[(.r y0),(.r y1),(.i y2),(.i (qk .i64 y3 1))]))) .fail) .fail) (.leaf (1,[]))):=by kernel_rfl
theorem qh8(x0:R)(x1:R):zW [.r x0,.r x1]=(.br (ine (qh x0) (qh x1)) (.leaf (0,[(.b false)])) (let r0:TR:=(qf vO [(.r x0),(.r x1),(.i (qh x0)),(.i 0)])
 .br (okR r0) (.br (jIs r0 0) (.leaf (0,[(.b true)])) (.leaf (0,[(.b (gB r0 0))]))) .fail)):=by kernel_rfl
theorem qmc(x0:List UInt8)(x1:List UInt8)(x2:Int):yD [.s x0,.s x1,.i x2]=(let r0:TR:=(qU [(.s x0),(.s x1),(.i x2)])
 .br (okR r0) (let r1:TR:=(ju [(.s (gS r0 0)),(.s [48]),(.s [48]),(.i (gI r0 1))])
 .br (okR r1) (.leaf (0,[(.i (gI r1 0)),(.i (gI r1 1))])) .fail) .fail):=by kernel_rfl
theorem qfT(x0:List UInt8)(x1:List UInt8)(x2:List UInt8)(x3:List UInt8)(x4:Int):yK [.s x0,.s x1,.s x2,.s x3,.i x4]=(let r0:TR:=(wI [(.s x0),(.s x1),(.s x2),(.s x3),(.i x4)])
 .br (okR r0) (let r1:TR:=(zH [(.s (gS r0 0)),(.s (gS r0 1)),(.s (gS r0 0)),(.s (gS r0 1)),(.i (gI r0 2))])
 .br (okR r1) (.leaf (0,[(.s (gS r1 0)),(.i (gI r1 1))])) .fail) .fail):=by kernel_rfl
theorem qqz(y0:List UInt8)(y1:Int):q3d [.s y0,.i y1]=(.br (ilt y1 (qt y0)) (.br (inb y1 (qt y0)) (.br (ieq (sat y0 y1) 47) (.leaf (2,[(.i y1)])) (.leaf (0,[(.s y0),(.i (qk .i64 y1 1))]))) .fail) (.leaf (1,[]))):=by kernel_rfl
theorem qtY(x0:List UInt8):q1X [.s x0]=(let r0:TR:=(qf q3d [(.s x0),(.i 0)])
 .br (okR r0) (.br (jIs r0 0) (.leaf (0,[(.i (-1))])) (.leaf (0,[(.i (gI r0 0))]))) .fail):=by kernel_rfl
theorem quc(x0:List UInt8):wB [.s x0]=(let r0:TR:=(q1X [(.s x0)])
 .br (okR r0) (.br (ilt (gI r0 0) 0) (.leaf (0,[(.s x0),(.s [49])])) (.br (q6E (gI r0 0) (qt x0)) (.br (q6E 0 (gI r0 0)) (.br (q6E (qt x0) (qt x0)) (.br (q6E (qk .i64 (gI r0 0) 1) (qt x0)) (.leaf (0,[(.s (qds x0 0 (gI r0 0))),(.s (qds x0 (qk .i64 (gI r0 0) 1) (qt x0)))])) .fail) .fail) .fail) .fail)) .fail):=by kernel_rfl
theorem qnR(x0:List UInt8):qx [.s x0]=(.br (not (seq x0 [])) (.br (inb 0 (qt x0)) (.br (ieq (sat x0 0) 45) (.br (q6E (qt x0) (qt x0)) (.br (q6E 1 (qt x0)) (.leaf (0,[(.s (qds x0 1 (qt x0)))])) .fail) .fail) (.leaf (0,[(.s x0)]))) .fail) (.leaf (0,[(.s x0)]))):=by kernel_rfl
theorem qqQ(y0:List UInt8)(y1:Int):q1l [.s y0,.i y1]=(.br (ilt y1 (qt y0)) (.br (inb y1 (qt y0)) (.br (ilt (sat y0 y1) 48) (.leaf (2,[(.i 3)])) (.br (inb y1 (qt y0)) (.br (ilt 57 (sat y0 y1)) (.leaf (2,[(.i 3)])) (.leaf (0,[(.s y0),(.i (qk .i64 y1 1))]))) .fail)) .fail) (.leaf (1,[(.s y0)]))):=by kernel_rfl
theorem quO(x0:List UInt8):q4g [.s x0]=(let r0:TR:=(qx [(.s x0)])
 .br (okR r0) (.br (seq (gS r0 0) []) (.leaf (0,[(.i 3)])) (.br (inb 0 (qt (gS r0 0))) (.br (ieq (sat (gS r0 0) 0) 48) (.br (ilt 1 (qt (gS r0 0))) (.leaf (0,[(.i 3)])) (.br (ilt 1 (qt x0)) (.leaf (0,[(.i 3)])) (let r1:TR:=(qf q1l [(.s (gS r0 0)),(.i 0)])
 .br (okR r1) (.br (jIs r1 0) (.br (ilt 1024 (qt (gS r1 0))) (.leaf (0,[(.i 11)])) (.leaf (0,[(.i 0)]))) (.leaf (0,[(.i (gI r1 0))]))) .fail))) (let r1:TR:=(qf q1l [(.s (gS r0 0)),(.i 0)])
 .br (okR r1) (.br (jIs r1 0) (.br (ilt 1024 (qt (gS r1 0))) (.leaf (0,[(.i 11)])) (.leaf (0,[(.i 0)]))) (.leaf (0,[(.i (gI r1 0))]))) .fail)) .fail)) .fail):=by kernel_rfl
theorem quj(x0:List UInt8):qF [.s x0]=(.br (inb 0 (qt x0)) (.leaf (0,[(.b (ieq (sat x0 0) 45))])) .fail):=by kernel_rfl
theorem qrv(x0:List UInt8)(x1:Bool):qN [.s x0,.b x1]=(.br x1 (.br (not (seq x0 [48])) (.br (ile ((qt [45])+(qt x0)) 140737488355328) (.leaf (0,[(.s (qeY [45] x0))])) .fail) (.leaf (0,[(.s x0)]))) (.leaf (0,[(.s x0)]))):=by kernel_rfl
theorem qsm(x0:List UInt8):zP [.s x0]=(let r0:TR:=(qx [(.s x0)])
 .br (okR r0) (let r1:TR:=(qF [(.s x0)])
 .br (okR r1) (let r2:TR:=(qN [(.s (gS r0 0)),(.b (not (gB r1 0)))])
 .br (okR r2) (.leaf (0,[(.s (gS r2 0))])) .fail) .fail) .fail):=by kernel_rfl
theorem qun(y0:Int)(y1:List UInt8):q6Z [.i y0,.s y1]=(.br (ilt 9 y0) (.br (ile ((qt (qkh [[(.i (we .u8 (qk .i64 48 (q83 y0 10))))]]))+(qt y1)) 140737488355328) (.leaf (0,[(.i (yi .i64 y0 10)),(.s (qeY (qkh [[(.i (we .u8 (qk .i64 48 (q83 y0 10))))]]) y1))])) .fail) (.leaf (1,[(.i y0),(.s y1)]))):=by kernel_rfl
theorem qxt(x0:Int):q6m [.i x0]=(.br (ieq x0 (qA .i64 0 x0)) (.br (ine x0 0) (.leaf (0,[(.s [45,57,50,50,51,51,55,50,48,51,54,56,53,52,55,55,53,56,48,56])])) (.br (ilt x0 0) .fail (let r0:TR:=(qf q6Z [(.i x0),(.s [])])
 .br (okR r0) (.br (ile ((qt (qkh [[(.i (we .u8 (qk .i64 48 (gI r0 0))))]]))+(qt (gS r0 1))) 140737488355328) (.leaf (0,[(.s (qeY (qkh [[(.i (we .u8 (qk .i64 48 (gI r0 0))))]]) (gS r0 1)))])) .fail) .fail))) (.br (ilt x0 0) .fail (let r0:TR:=(qf q6Z [(.i x0),(.s [])])
 .br (okR r0) (.br (ile ((qt (qkh [[(.i (we .u8 (qk .i64 48 (gI r0 0))))]]))+(qt (gS r0 1))) 140737488355328) (.leaf (0,[(.s (qeY (qkh [[(.i (we .u8 (qk .i64 48 (gI r0 0))))]]) (gS r0 1)))])) .fail) .fail))):=by kernel_rfl
theorem qxc(y0:Int)(y1:List UInt8):q9j [.i y0,.s y1]=(.br (ilt 9 y0) (.br (ile ((qt (qkh [[(.i (we .u8 (qk .i64 48 (q83 y0 10))))]]))+(qt y1)) 140737488355328) (.leaf (0,[(.i (yi .i64 y0 10)),(.s (qeY (qkh [[(.i (we .u8 (qk .i64 48 (q83 y0 10))))]]) y1))])) .fail) (.leaf (1,[(.i y0),(.s y1)]))):=by kernel_rfl
theorem qrL(x0:Int):ze [.i x0]=(.br (ieq x0 (qA .i64 0 x0)) (.br (ine x0 0) (.leaf (0,[(.s [45,57,50,50,51,51,55,50,48,51,54,56,53,52,55,55,53,56,48,56])])) (.br (ilt x0 0) (let r0:TR:=(q6m [(.i (qA .i64 0 x0))])
 .br (okR r0) (let r1:TR:=(zP [(.s (gS r0 0))])
 .br (okR r1) (.leaf (0,[(.s (gS r1 0))])) .fail) .fail) (let r0:TR:=(qf q9j [(.i x0),(.s [])])
 .br (okR r0) (.br (ile ((qt (qkh [[(.i (we .u8 (qk .i64 48 (gI r0 0))))]]))+(qt (gS r0 1))) 140737488355328) (.leaf (0,[(.s (qeY (qkh [[(.i (we .u8 (qk .i64 48 (gI r0 0))))]]) (gS r0 1)))])) .fail) .fail))) (.br (ilt x0 0) (let r0:TR:=(q6m [(.i (qA .i64 0 x0))])
 .br (okR r0) (let r1:TR:=(zP [(.s (gS r0 0))])
 .br (okR r1) (.leaf (0,[(.s (gS r1 0))])) .fail) .fail) (let r0:TR:=(qf q9j [(.i x0),(.s [])])
 .br (okR r0) (.br (ile ((qt (qkh [[(.i (we .u8 (qk .i64 48 (gI r0 0))))]]))+(qt (gS r0 1))) 140737488355328) (.leaf (0,[(.s (qeY (qkh [[(.i (we .u8 (qk .i64 48 (gI r0 0))))]]) (gS r0 1)))])) .fail) .fail))):=by kernel_rfl
theorem qfb(y0:List UInt8)(y1:Int)(y2:List UInt8)(y3:Int):kI [.s y0,.i y1,.s y2,.i y3]=(.br (ilt y3 (qt y2)) (.br (inb y3 (qt y2)) (.leaf (0,[(.s y0),(.i (qk .i64 (ux .i64 10 y1) (we .i64 (qA .u8 (sat y2 y3) 48)))),(.s y2),(.i (qk .i64 y3 1))])) .fail) (.leaf (1,[(.s y0),(.i y1)]))):=by kernel_rfl
theorem qrD(x0:List UInt8):uD [.s x0]=(let r0:TR:=(qx [(.s x0)])
 .br (okR r0) (let r1:TR:=(qf kI [(.s x0),(.i 0),(.s (gS r0 0)),(.i 0)])
 .br (okR r1) (let r2:TR:=(qF [(.s (gS r1 0))])
 .br (okR r2) (.br (gB r2 0) (.leaf (0,[(.i (qA .i64 0 (gI r1 1)))])) (.leaf (0,[(.i (gI r1 1))]))) .fail) .fail) .fail):=by kernel_rfl
theorem quH(x0:List UInt8)(x1:List UInt8):wF [.s x0,.s x1]=(.br (okR (qx [(.s x0)])) (.br (ilt 18 (qt (gS (qx [(.s x0)]) 0))) (.leaf (0,[(.i 0),(.i 0),(.b false)])) (.br (okR (qx [(.s x1)])) (.br (ilt 18 (qt (gS (qx [(.s x1)]) 0))) (.leaf (0,[(.i 0),(.i 0),(.b false)])) (.br (okR (uD [(.s x0)])) (.br (okR (uD [(.s x1)])) (.leaf (0,[(.i (gI (uD [(.s x0)]) 0)),(.i (gI (uD [(.s x1)]) 0)),(.b true)])) .fail) .fail)) .fail)) .fail):=by kernel_rfl
theorem qif(y0:List UInt8)(y1:Int)(y2:Int)(y3:R):q2A [.s y0,.i y1,.i y2,.r y3]=(.br (ilt y2 y1) (.br (inb y2 (qh y3)) (.leaf (0,[(.s y0),(.i y1),(.i (qk .i64 y2 1)),(.r (q6D y3 y2 0 [(.i 48)]))])) .fail) (.leaf (1,[(.s y0),(.i y1),(.r y3)]))):=by kernel_rfl
theorem qw4(x0:List UInt8)(x1:Int):q3t [.s x0,.i x1]=(.br (ieq x1 x1) (.br (q6E x1 140737488355328) (let r0:TR:=(qf q2A [(.s x0),(.i x1),(.i 0),(.r (q4U x1 [(.i 0)]))])
 .br (okR r0) (.br (ilt 0 (qh (gR r0 2))) (.br (q6E (qA .i64 (gI r0 1) (qt (gS r0 0))) (qh (gR r0 2))) (.br (ile (qt (gS r0 0)) (qzt (qh (gR r0 2)) (qA .i64 (gI r0 1) (qt (gS r0 0))))) (.leaf (0,[(.s (qkh (qzh (gR r0 2) (qA .i64 (gI r0 1) (qt (gS r0 0))) (gS r0 0))))])) .fail) .fail) .fail) .fail) .fail) .fail):=by kernel_rfl
theorem qsc(x0:Int)(x1:Int)(x2:Int)(x3:Bool):q2y [.i x0,.i x1,.i x2,.b x3]=(.br x3 (.br (ilt 9 (qk .i64 (qk .i64 (we .i64 (qA .u8 x0 48)) (we .i64 (qA .u8 x1 48))) x2)) (.leaf (0,[(.i (we .u8 (qA .i64 (qk .i64 48 (qk .i64 (qk .i64 (we .i64 (qA .u8 x0 48)) (we .i64 (qA .u8 x1 48))) x2)) 10))),(.i 1)])) (.br (ilt (qk .i64 (qk .i64 (we .i64 (qA .u8 x0 48)) (we .i64 (qA .u8 x1 48))) x2) 0) (.leaf (0,[(.i (we .u8 (qk .i64 (qk .i64 48 (qk .i64 (qk .i64 (we .i64 (qA .u8 x0 48)) (we .i64 (qA .u8 x1 48))) x2)) 10))),(.i 1)])) (.leaf (0,[(.i (we .u8 (qk .i64 48 (qk .i64 (qk .i64 (we .i64 (qA .u8 x0 48)) (we .i64 (qA .u8 x1 48))) x2)))),(.i 0)])))) (.br (ilt 9 (qA .i64 (qA .i64 (we .i64 (qA .u8 x0 48)) (we .i64 (qA .u8 x1 48))) x2)) (.leaf (0,[(.i (we .u8 (qA .i64 (qk .i64 48 (qA .i64 (qA .i64 (we .i64 (qA .u8 x0 48)) (we .i64 (qA .u8 x1 48))) x2)) 10))),(.i 1)])) (.br (ilt (qA .i64 (qA .i64 (we .i64 (qA .u8 x0 48)) (we .i64 (qA .u8 x1 48))) x2) 0) (.leaf (0,[(.i (we .u8 (qk .i64 (qk .i64 48 (qA .i64 (qA .i64 (we .i64 (qA .u8 x0 48)) (we .i64 (qA .u8 x1 48))) x2)) 10))),(.i 1)])) (.leaf (0,[(.i (we .u8 (qk .i64 48 (qA .i64 (qA .i64 (we .i64 (qA .u8 x0 48)) (we .i64 (qA .u8 x1 48))) x2)))),(.i 0)]))))):=by kernel_rfl
theorem qt8(y0:List UInt8):q5d [.s y0]=(.br (ilt 1 (qt y0)) (.br (inb 0 (qt y0)) (.br (ieq (sat y0 0) 48) (.br (q6E (qt y0) (qt y0)) (.br (q6E 1 (qt y0)) (.leaf (0,[(.s (qds y0 1 (qt y0)))])) .fail) .fail) (.leaf (1,[(.s y0)]))) .fail) (.leaf (1,[(.s y0)]))):=by kernel_rfl
theorem qwr(x0:List UInt8):zS [.s x0]=(let r0:TR:=(qf q5d [(.s x0)])
 .br (okR r0) (.leaf (0,[(.s (gS r0 0))])) .fail):=by kernel_rfl
theorem qqq(y0:List UInt8)(y1:List UInt8)(y2:Bool)(y3:Int)(y4:Int)(y5:R):q1j [.s y0,.s y1,.b y2,.i y3,.i y4,.r y5]=(.br (ile 0 y4) (.br (inb y4 (qt y0)) (.br (inb y4 (qt y1)) (let r0:TR:=(q2y [(.i (sat y0 y4)),(.i (sat y1 y4)),(.i y3),(.b y2)])
 .br (okR r0) (.br (inb y4 (qh y5)) (.leaf (0,[(.s y0),(.s y1),(.b y2),(.i (gI r0 1)),(.i (qA .i64 y4 1)),(.r (q6D y5 y4 0 [(.i (gI r0 0))]))])) .fail) .fail) .fail) .fail) (.leaf (1,[(.r y5)]))):=by kernel_rfl
theorem quz(x0:List UInt8)(x1:List UInt8)(x2:Bool):j0 [.s x0,.s x1,.b x2]=(let r0:TR:=(q3t [(.s x0),(.i (qk .i64 (qi9 (qt x0) (qt x1)) 1))])
 .br (okR r0) (let r1:TR:=(q3t [(.s x1),(.i (qk .i64 (qi9 (qt x0) (qt x1)) 1))])
 .br (okR r1) (.br (ieq (qk .i64 (qi9 (qt x0) (qt x1)) 1) (qk .i64 (qi9 (qt x0) (qt x1)) 1)) (.br (q6E (qk .i64 (qi9 (qt x0) (qt x1)) 1) 140737488355328) (let r2:TR:=(qf q1j [(.s (gS r0 0)),(.s (gS r1 0)),(.b x2),(.i 0),(.i (qA .i64 (qk .i64 (qi9 (qt x0) (qt x1)) 1) 1)),(.r (q4U (qk .i64 (qi9 (qt x0) (qt x1)) 1) [(.i 0)]))])
 .br (okR r2) (let r3:TR:=(zS [(.s (qkh (gR r2 0)))])
 .br (okR r3) (.leaf (0,[(.s (gS r3 0))])) .fail) .fail) .fail) .fail) .fail) .fail):=by kernel_rfl
theorem qwi(x0:List UInt8)(x1:List UInt8):kV [.s x0,.s x1]=(.br (ilt (qt x0) (qt x1)) (.leaf (0,[(.b true)])) (.br (ieq (qt x0) (qt x1)) (.leaf (0,[(.b (slt x0 x1))])) (.leaf (0,[(.b false)])))):=by kernel_rfl
theorem qwu(x0:List UInt8)(x1:List UInt8):q3n [.s x0,.s x1]=(let r0:TR:=(wF [(.s x0),(.s x1)])
 .br (okR r0) (.br (gB r0 2) (let r1:TR:=(ze [(.i (qk .i64 (gI r0 0) (gI r0 1)))])
 .br (okR r1) (.leaf (0,[(.s (gS r1 0))])) .fail) (let r1:TR:=(qx [(.s x0)])
 .br (okR r1) (let r2:TR:=(qx [(.s x1)])
 .br (okR r2) (let r3:TR:=(qF [(.s x0)])
 .br (okR r3) (let r4:TR:=(qF [(.s x1)])
 .br (okR r4) (.br (beq (gB r3 0) (gB r4 0)) (let r5:TR:=(j0 [(.s (gS r1 0)),(.s (gS r2 0)),(.b true)])
 .br (okR r5) (.br (okR r3) (let r6:TR:=(qN [(.s (gS r5 0)),(.b (gB r3 0))])
 .br (okR r6) (.leaf (0,[(.s (gS r6 0))])) .fail) .fail) .fail) (let r5:TR:=(kV [(.s (gS r1 0)),(.s (gS r2 0))])
 .br (okR r5) (.br (gB r5 0) (let r6:TR:=(j0 [(.s (gS r2 0)),(.s (gS r1 0)),(.b false)])
 .br (okR r6) (.br (okR r4) (let r7:TR:=(qN [(.s (gS r6 0)),(.b (gB r4 0))])
 .br (okR r7) (.leaf (0,[(.s (gS r7 0))])) .fail) .fail) .fail) (let r6:TR:=(j0 [(.s (gS r1 0)),(.s (gS r2 0)),(.b false)])
 .br (okR r6) (.br (okR r3) (let r7:TR:=(qN [(.s (gS r6 0)),(.b (gB r3 0))])
 .br (okR r7) (.leaf (0,[(.s (gS r7 0))])) .fail) .fail) .fail)) .fail)) .fail) .fail) .fail) .fail)) .fail):=by kernel_rfl
theorem qtI(x0:List UInt8)(x1:List UInt8):vz [.s x0,.s x1]=(let r0:TR:=(zP [(.s x1)])
 .br (okR r0) (let r1:TR:=(q3n [(.s x0),(.s (gS r0 0))])
 .br (okR r1) (.leaf (0,[(.s (gS r1 0))])) .fail) .fail):=by kernel_rfl
theorem qtQ(x0:List UInt8)(x1:List UInt8):ua [.s x0,.s x1]=(let r0:TR:=(vz [(.s x0),(.s x1)])
 .br (okR r0) (.br (seq (gS r0 0) [48]) (.leaf (0,[(.i 0)])) (let r1:TR:=(qF [(.s (gS r0 0))])
 .br (okR r1) (.br (gB r1 0) (.leaf (0,[(.i (-1))])) (.leaf (0,[(.i 1)]))) .fail)) .fail):=by kernel_rfl
theorem qnl(y0:List UInt8)(y1:List UInt8)(y2:Int)(y3:Int)(y4:R):uJ [.s y0,.s y1,.i y2,.i y3,.r y4]=(.br (ilt y3 (qt y1)) (.br (inb (qk .i64 (qk .i64 y2 y3) 1) (qh y4)) (.br (inb y2 (qt y0)) (.br (inb y3 (qt y1)) (.br (inb (qk .i64 (qk .i64 y2 y3) 1) (qh y4)) (.leaf (0,[(.s y0),(.s y1),(.i y2),(.i (qk .i64 y3 1)),(.r (q6D y4 (qk .i64 (qk .i64 y2 y3) 1) 0 [(.i (qk .i64 (cI y4 (qk .i64 (qk .i64 y2 y3) 1) 0) (ux .i64 (we .i64 (qA .u8 (sat y0 y2) 48)) (we .i64 (qA .u8 (sat y1 y3) 48)))))]))])) .fail) .fail) .fail) .fail) (.leaf (1,[(.s y0),(.s y1),(.i y2),(.r y4)]))):=by kernel_rfl
theorem qmt(y0:List UInt8)(y1:List UInt8)(y2:Int)(y3:R):uK [.s y0,.s y1,.i y2,.r y3]=(.br (ilt y2 (qt y0)) (let r0:TR:=(qf uJ [(.s y0),(.s y1),(.i y2),(.i 0),(.r y3)])
 .br (okR r0) (.leaf (0,[(.s (gS r0 0)),(.s (gS r0 1)),(.i (qk .i64 (gI r0 2) 1)),(.r (gR r0 3))])) .fail) (.leaf (1,[(.r y3)]))):=by kernel_rfl
theorem qlu(y0:Int)(y1:Int)(y2:R)(y3:R):yC [.i y0,.i y1,.r y2,.r y3]=(.br (ile 0 y1) (.br (inb y1 (qh y2)) (.br (inb y1 (qh y3)) (.leaf (0,[(.i (yi .i64 (qk .i64 y0 (cI y2 y1 0)) 10)),(.i (qA .i64 y1 1)),(.r y2),(.r (q6D y3 y1 0 [(.i (we .u8 (qk .i64 48 (q83 (qk .i64 y0 (cI y2 y1 0)) 10))))]))])) .fail) .fail) (.leaf (1,[(.r y3)]))):=by kernel_rfl
theorem qqw(x0:List UInt8)(x1:List UInt8):q13 [.s x0,.s x1]=(.br (ieq (qk .i64 (qt x0) (qt x1)) (qk .i64 (qt x0) (qt x1))) (.br (q6E (qk .i64 (qt x0) (qt x1)) 17592186044416) (let r0:TR:=(qf uK [(.s x0),(.s x1),(.i 0),(.r (q4U (qk .i64 (qt x0) (qt x1)) [(.i 0)]))])
 .br (okR r0) (.br (ieq (qh (gR r0 0)) (qh (gR r0 0))) (.br (q6E (qh (gR r0 0)) 140737488355328) (let r1:TR:=(qf yC [(.i 0),(.i (qA .i64 (qh (gR r0 0)) 1)),(.r (gR r0 0)),(.r (q4U (qh (gR r0 0)) [(.i 0)]))])
 .br (okR r1) (let r2:TR:=(zS [(.s (qkh (gR r1 0)))])
 .br (okR r2) (.leaf (0,[(.s (gS r2 0))])) .fail) .fail) .fail) .fail) .fail) .fail) .fail):=by kernel_rfl
theorem qup(x0:List UInt8)(x1:List UInt8):wz [.s x0,.s x1]=(let r0:TR:=(wF [(.s x0),(.s x1)])
 .br (okR r0) (.br (gB r0 2) (.br (ile (qk .i64 (qt x0) (qt x1)) 18) (let r1:TR:=(ze [(.i (ux .i64 (gI r0 0) (gI r0 1)))])
 .br (okR r1) (.leaf (0,[(.s (gS r1 0))])) .fail) (let r1:TR:=(qx [(.s x0)])
 .br (okR r1) (let r2:TR:=(qx [(.s x1)])
 .br (okR r2) (let r3:TR:=(q13 [(.s (gS r1 0)),(.s (gS r2 0))])
 .br (okR r3) (let r4:TR:=(qF [(.s x0)])
 .br (okR r4) (let r5:TR:=(qF [(.s x1)])
 .br (okR r5) (let r6:TR:=(qN [(.s (gS r3 0)),(.b (not (beq (gB r4 0) (gB r5 0))))])
 .br (okR r6) (.leaf (0,[(.s (gS r6 0))])) .fail) .fail) .fail) .fail) .fail) .fail)) (let r1:TR:=(qx [(.s x0)])
 .br (okR r1) (let r2:TR:=(qx [(.s x1)])
 .br (okR r2) (let r3:TR:=(q13 [(.s (gS r1 0)),(.s (gS r2 0))])
 .br (okR r3) (let r4:TR:=(qF [(.s x0)])
 .br (okR r4) (let r5:TR:=(qF [(.s x1)])
 .br (okR r5) (let r6:TR:=(qN [(.s (gS r3 0)),(.b (not (beq (gB r4 0) (gB r5 0))))])
 .br (okR r6) (.leaf (0,[(.s (gS r6 0))])) .fail) .fail) .fail) .fail) .fail) .fail)) .fail):=by kernel_rfl
theorem qmn(y0:List UInt8)(y1:List UInt8)(y2:List UInt8)(y3:List UInt8)(y4:Int)(y5:Int):yl [.s y0,.s y1,.s y2,.s y3,.i y4,.i y5]=(let r0:TR:=(kV [(.s y3),(.s y1)])
 .br (okR r0) (.br (not (gB r0 0)) (let r1:TR:=(j0 [(.s y3),(.s y1),(.b false)])
 .br (okR r1) (.leaf (0,[(.s y0),(.s y1),(.s y2),(.s (gS r1 0)),(.i y4),(.i (qk .u8 y5 1))])) .fail) (.leaf (1,[(.s y0),(.s y1),(.s y2),(.s y3),(.i y4),(.i y5)]))) .fail):=by kernel_rfl
theorem qnF(y0:List UInt8)(y1:List UInt8)(y2:List UInt8)(y3:List UInt8)(y4:Int):q1x [.s y0,.s y1,.s y2,.s y3,.i y4]=(.br (ilt y4 (qt y0)) (.br (q6E (qk .i64 y4 1) (qt y0)) (.br (q6E y4 (qk .i64 y4 1)) (.br (ile ((qt y3)+(qt (qds y0 y4 (qk .i64 y4 1)))) 140737488355328) (let r0:TR:=(zS [(.s (qeY y3 (qds y0 y4 (qk .i64 y4 1))))])
 .br (okR r0) (let r1:TR:=(qf yl [(.s y0),(.s y1),(.s y2),(.s (gS r0 0)),(.i y4),(.i 48)])
 .br (okR r1) (.br (ile ((qt (gS r1 2))+(qt (qkh [[(.i (gI r1 5))]]))) 140737488355328) (.leaf (0,[(.s (gS r1 0)),(.s (gS r1 1)),(.s (qeY (gS r1 2) (qkh [[(.i (gI r1 5))]]))),(.s (gS r1 3)),(.i (qk .i64 (gI r1 4) 1))])) .fail) .fail) .fail) .fail) .fail) .fail) (.leaf (1,[(.s y2),(.s y3)]))):=by kernel_rfl
theorem qqr(x0:List UInt8)(x1:List UInt8):q3S [.s x0,.s x1]=(let r0:TR:=(qf q1x [(.s x0),(.s x1),(.s []),(.s [48]),(.i 0)])
 .br (okR r0) (let r1:TR:=(zS [(.s (gS r0 0))])
 .br (okR r1) (.leaf (0,[(.s (gS r1 0)),(.s (gS r0 1))])) .fail) .fail):=by kernel_rfl
theorem qrH(x0:List UInt8)(x1:List UInt8):wy [.s x0,.s x1]=(let r0:TR:=(wF [(.s x0),(.s x1)])
 .br (okR r0) (.br (gB r0 2) (.br (ine (gI r0 1) 0) (.br (ine (q83 (gI r0 0) (gI r0 1)) 0) (.br (not (beq (ilt (q83 (gI r0 0) (gI r0 1)) 0) (ilt (gI r0 1) 0))) (.br (ine (gI r0 1) 0) (let r1:TR:=(ze [(.i (yi .i64 (qA .i64 (gI r0 0) (qk .i64 (q83 (gI r0 0) (gI r0 1)) (gI r0 1))) (gI r0 1)))])
 .br (okR r1) (let r2:TR:=(ze [(.i (qk .i64 (q83 (gI r0 0) (gI r0 1)) (gI r0 1)))])
 .br (okR r2) (.leaf (0,[(.s (gS r1 0)),(.s (gS r2 0))])) .fail) .fail) .fail) (.br (ine (gI r0 1) 0) (let r1:TR:=(ze [(.i (yi .i64 (qA .i64 (gI r0 0) (q83 (gI r0 0) (gI r0 1))) (gI r0 1)))])
 .br (okR r1) (let r2:TR:=(ze [(.i (q83 (gI r0 0) (gI r0 1)))])
 .br (okR r2) (.leaf (0,[(.s (gS r1 0)),(.s (gS r2 0))])) .fail) .fail) .fail)) (.br (ine (gI r0 1) 0) (let r1:TR:=(ze [(.i (yi .i64 (qA .i64 (gI r0 0) (q83 (gI r0 0) (gI r0 1))) (gI r0 1)))])
 .br (okR r1) (let r2:TR:=(ze [(.i (q83 (gI r0 0) (gI r0 1)))])
 .br (okR r2) (.leaf (0,[(.s (gS r1 0)),(.s (gS r2 0))])) .fail) .fail) .fail)) .fail) (let r1:TR:=(qx [(.s x0)])
 .br (okR r1) (let r2:TR:=(qx [(.s x1)])
 .br (okR r2) (let r3:TR:=(q3S [(.s (gS r1 0)),(.s (gS r2 0))])
 .br (okR r3) (let r4:TR:=(qF [(.s x0)])
 .br (okR r4) (let r5:TR:=(qF [(.s x1)])
 .br (okR r5) (let r6:TR:=(qN [(.s (gS r3 0)),(.b (not (beq (gB r4 0) (gB r5 0))))])
 .br (okR r6) (.br (not (seq (gS r3 1) [48])) (.br (okR r4) (.br (okR r5) (.br (not (beq (gB r4 0) (gB r5 0))) (let r7:TR:=(vz [(.s (gS r6 0)),(.s [49])])
 .br (okR r7) (let r8:TR:=(wz [(.s (gS r7 0)),(.s x1)])
 .br (okR r8) (let r9:TR:=(vz [(.s x0),(.s (gS r8 0))])
 .br (okR r9) (.leaf (0,[(.s (gS r7 0)),(.s (gS r9 0))])) .fail) .fail) .fail) (let r7:TR:=(wz [(.s (gS r6 0)),(.s x1)])
 .br (okR r7) (let r8:TR:=(vz [(.s x0),(.s (gS r7 0))])
 .br (okR r8) (.leaf (0,[(.s (gS r6 0)),(.s (gS r8 0))])) .fail) .fail)) .fail) .fail) (let r7:TR:=(wz [(.s (gS r6 0)),(.s x1)])
 .br (okR r7) (let r8:TR:=(vz [(.s x0),(.s (gS r7 0))])
 .br (okR r8) (.leaf (0,[(.s (gS r6 0)),(.s (gS r8 0))])) .fail) .fail)) .fail) .fail) .fail) .fail) .fail) .fail)) .fail):=by kernel_rfl
theorem qnT(y0:Int)(y1:Int):uI [.i y0,.i y1]=(.br (ilt 0 y1) (.br (ine y1 0) (.leaf (0,[(.i y1),(.i (q83 y0 y1))])) .fail) (.leaf (1,[(.i y0)]))):=by kernel_rfl
theorem qox(y0:List UInt8)(y1:List UInt8):q24 [.s y0,.s y1]=(.br (not (seq y1 [48])) (let r0:TR:=(wF [(.s y0),(.s y1)])
 .br (okR r0) (.br (gB r0 2) (let r1:TR:=(qf uI [(.i (gI r0 0)),(.i (gI r0 1))])
 .br (okR r1) (let r2:TR:=(ze [(.i (gI r1 0))])
 .br (okR r2) (.leaf (2,[(.s (gS r2 0))])) .fail) .fail) (let r1:TR:=(wy [(.s y0),(.s y1)])
 .br (okR r1) (.leaf (0,[(.s y1),(.s (gS r1 1))])) .fail)) .fail) (.leaf (1,[(.s y0)]))):=by kernel_rfl
theorem qt6(x0:List UInt8)(x1:List UInt8):q0B [.s x0,.s x1]=(let r0:TR:=(qx [(.s x0)])
 .br (okR r0) (let r1:TR:=(qN [(.s (gS r0 0)),(.b false)])
 .br (okR r1) (let r2:TR:=(qx [(.s x1)])
 .br (okR r2) (let r3:TR:=(qN [(.s (gS r2 0)),(.b false)])
 .br (okR r3) (let r4:TR:=(qf q24 [(.s (gS r1 0)),(.s (gS r3 0))])
 .br (okR r4) (.br (jIs r4 0) (.leaf (0,[(.s (gS r4 0))])) (.leaf (0,[(.s (gS r4 0))]))) .fail) .fail) .fail) .fail) .fail):=by kernel_rfl
theorem qu2(x0:List UInt8):vA [.s x0]=(let r0:TR:=(wB [(.s x0)])
 .br (okR r0) (let r1:TR:=(q4g [(.s (gS r0 0))])
 .br (okR r1) (.br (ieq (gI r1 0) 3) (.leaf (0,[(.i 3)])) (let r2:TR:=(q4g [(.s (gS r0 1))])
 .br (okR r2) (.br (ieq (gI r2 0) 3) (.leaf (0,[(.i 3)])) (.br (okR r1) (.br (ine (gI r1 0) 0) (.leaf (0,[(.i 11)])) (.br (okR r2) (.br (ine (gI r2 0) 0) (.leaf (0,[(.i 11)])) (let r3:TR:=(q1X [(.s x0)])
 .br (okR r3) (.br (ile 0 (gI r3 0)) (let r4:TR:=(ua [(.s (gS r0 1)),(.s [49])])
 .br (okR r4) (.br (ile (gI r4 0) 0) (.leaf (0,[(.i 3)])) (let r5:TR:=(q0B [(.s (gS r0 0)),(.s (gS r0 1))])
 .br (okR r5) (.br (not (seq (gS r5 0) [49])) (.leaf (0,[(.i 3)])) (.leaf (0,[(.i 0)]))) .fail)) .fail) (.leaf (0,[(.i 0)]))) .fail)) .fail)) .fail)) .fail)) .fail) .fail):=by kernel_rfl
theorem qt0(x0:List UInt8):ww [.s x0]=(let r0:TR:=(wB [(.s x0)])
 .br (okR r0) (let r1:TR:=(ua [(.s (gS r0 0)),(.s [48])])
 .br (okR r1) (.leaf (0,[(.i (gI r1 0))])) .fail) .fail):=by kernel_rfl
theorem q62(y0:Int)(y1:Int)(y2:List UInt8)(y3:List UInt8)(y4:List UInt8)(y5:R):q3Q [.i y0,.i y1,.s y2,.s y3,.s y4,.r y5]=(.br (ilt y1 y0) (.br (inb y1 (qh y5)) (let r0:TR:=(vA [(.s (cS y5 y1 0))])
 .br (okR r0) (.br (ine (gI r0 0) 0) (.leaf (2,[(.i (gI r0 0))])) (.leaf (0,[(.i y0),(.i (qk .i64 y1 1)),(.s y2),(.s y3),(.s y4),(.r y5)]))) .fail) .fail) (.leaf (1,[(.s y2),(.s y3),(.s y4)]))):=by kernel_rfl
theorem qul(x0:List UInt8)(x1:List UInt8)(x2:List UInt8):q47 [.s x0,.s x1,.s x2]=(let r0:TR:=(qf q3Q [(.i (qh [[(.s x0)],[(.s x1)],[(.s x2)]])),(.i 0),(.s x0),(.s x1),(.s x2),(.r [[(.s x0)],[(.s x1)],[(.s x2)]])])
 .br (okR r0) (.br (jIs r0 0) (let r1:TR:=(ww [(.s (gS r0 2))])
 .br (okR r1) (.br (ilt (gI r1 0) 0) (.leaf (0,[(.i 2)])) (.leaf (0,[(.i 0)]))) .fail) (.leaf (0,[(.i (gI r0 0))]))) .fail):=by kernel_rfl
theorem qjf(y0:R)(y1:Int):q58 [.r y0,.i y1]=(.br (ilt y1 (qh y0)) (.br (inb y1 (qh y0)) (let r0:TR:=(q47 [(.s (cS y0 y1 0)),(.s (cS y0 y1 1)),(.s (cS y0 y1 2))])
 .br (okR r0) (.br (ine (gI r0 0) 0) (.leaf (2,[(.i (gI r0 0))])) (.leaf (0,[(.r y0),(.i (qk .i64 y1 1))]))) .fail) .fail) (.leaf (1,[(.r y0)]))):=by kernel_rfl
theorem qwf(x0:R):q3u [.r x0]=(.br (ilt 64 (qh x0)) (.leaf (0,[(.i 5)])) (let r0:TR:=(qf q58 [(.r x0),(.i 0)])
 .br (okR r0) (.br (jIs r0 0) (.br (ieq (qh (gR r0 0)) 0) (.leaf (0,[(.i 13)])) (.leaf (0,[(.i 0)]))) (.leaf (0,[(.i (gI r0 0))]))) .fail)):=by kernel_rfl
theorem qqT(x0:List UInt8)(x1:List UInt8):zr [.s x0,.s x1]=(let r0:TR:=(wB [(.s x0)])
 .br (okR r0) (let r1:TR:=(wB [(.s x1)])
 .br (okR r1) (let r2:TR:=(wz [(.s (gS r0 0)),(.s (gS r1 1))])
 .br (okR r2) (let r3:TR:=(wz [(.s (gS r1 0)),(.s (gS r0 1))])
 .br (okR r3) (let r4:TR:=(wz [(.s (gS r0 1)),(.s (gS r1 1))])
 .br (okR r4) (let r5:TR:=(wz [(.s (gS r0 0)),(.s (gS r1 0))])
 .br (okR r5) (let r6:TR:=(wz [(.s (gS r0 1)),(.s (gS r1 0))])
 .br (okR r6) (.leaf (0,[(.r [[(.s (gS r2 0))],[(.s (gS r3 0))],[(.s (gS r4 0))],[(.s (gS r5 0))],[(.s (gS r6 0))]])])) .fail) .fail) .fail) .fail) .fail) .fail) .fail):=by kernel_rfl
theorem qrS(x0:List UInt8)(x1:List UInt8):zM [.s x0,.s x1]=(let r0:TR:=(q0B [(.s x0),(.s x1)])
 .br (okR r0) (let r1:TR:=(qF [(.s x1)])
 .br (okR r1) (.br (gB r1 0) (let r2:TR:=(zP [(.s (gS r0 0))])
 .br (okR r2) (let r3:TR:=(wy [(.s x0),(.s (gS r2 0))])
 .br (okR r3) (let r4:TR:=(wy [(.s x1),(.s (gS r2 0))])
 .br (okR r4) (.br (seq (gS r4 0) [49]) (.leaf (0,[(.s (gS r3 0))])) (.br (ile ((qt (gS r3 0))+(qt [47])) 140737488355328) (.br (ile ((qt (qeY (gS r3 0) [47]))+(qt (gS r4 0))) 140737488355328) (.leaf (0,[(.s (qeY (qeY (gS r3 0) [47]) (gS r4 0)))])) .fail) .fail)) .fail) .fail) .fail) (let r2:TR:=(wy [(.s x0),(.s (gS r0 0))])
 .br (okR r2) (let r3:TR:=(wy [(.s x1),(.s (gS r0 0))])
 .br (okR r3) (.br (seq (gS r3 0) [49]) (.leaf (0,[(.s (gS r2 0))])) (.br (ile ((qt (gS r2 0))+(qt [47])) 140737488355328) (.br (ile ((qt (qeY (gS r2 0) [47]))+(qt (gS r3 0))) 140737488355328) (.leaf (0,[(.s (qeY (qeY (gS r2 0) [47]) (gS r3 0)))])) .fail) .fail)) .fail) .fail)) .fail) .fail):=by kernel_rfl
theorem qxl(x0:List UInt8)(x1:List UInt8):yd [.s x0,.s x1]=(let r0:TR:=(zr [(.s x0),(.s x1)])
 .br (okR r0) (.br (inb 0 (qh (gR r0 0))) (.br (inb 1 (qh (gR r0 0))) (let r1:TR:=(q3n [(.s (cS (gR r0 0) 0 0)),(.s (cS (gR r0 0) 1 0))])
 .br (okR r1) (.br (inb 2 (qh (gR r0 0))) (let r2:TR:=(zM [(.s (gS r1 0)),(.s (cS (gR r0 0) 2 0))])
 .br (okR r2) (.leaf (0,[(.s (gS r2 0))])) .fail) .fail) .fail) .fail) .fail) .fail):=by kernel_rfl
theorem quE(x0:List UInt8)(x1:List UInt8):wD [.s x0,.s x1]=(let r0:TR:=(zr [(.s x0),(.s x1)])
 .br (okR r0) (.br (inb 0 (qh (gR r0 0))) (.br (inb 1 (qh (gR r0 0))) (let r1:TR:=(vz [(.s (cS (gR r0 0) 0 0)),(.s (cS (gR r0 0) 1 0))])
 .br (okR r1) (.br (inb 2 (qh (gR r0 0))) (let r2:TR:=(zM [(.s (gS r1 0)),(.s (cS (gR r0 0) 2 0))])
 .br (okR r2) (.leaf (0,[(.s (gS r2 0))])) .fail) .fail) .fail) .fail) .fail) .fail):=by kernel_rfl
theorem quK(x0:List UInt8)(x1:List UInt8):qR [.s x0,.s x1]=(let r0:TR:=(zr [(.s x0),(.s x1)])
 .br (okR r0) (.br (inb 3 (qh (gR r0 0))) (.br (inb 2 (qh (gR r0 0))) (let r1:TR:=(zM [(.s (cS (gR r0 0) 3 0)),(.s (cS (gR r0 0) 2 0))])
 .br (okR r1) (.leaf (0,[(.s (gS r1 0))])) .fail) .fail) .fail) .fail):=by kernel_rfl
theorem qxT(x0:List UInt8)(x1:List UInt8)(x2:List UInt8)(x3:List UInt8):uU [.s x0,.s x1,.s x2,.s x3]=(let r0:TR:=(qR [(.s x0),(.s x2)])
 .br (okR r0) (let r1:TR:=(qR [(.s x1),(.s x3)])
 .br (okR r1) (let r2:TR:=(yd [(.s (gS r0 0)),(.s (gS r1 0))])
 .br (okR r2) (.leaf (0,[(.s (gS r2 0))])) .fail) .fail) .fail):=by kernel_rfl
theorem qux(x0:List UInt8)(x1:List UInt8)(x2:List UInt8)(x3:List UInt8):um [.s x0,.s x1,.s x2,.s x3]=(let r0:TR:=(wD [(.s x0),(.s x2)])
 .br (okR r0) (let r1:TR:=(wD [(.s x1),(.s x3)])
 .br (okR r1) (.leaf (0,[(.s (gS r0 0)),(.s (gS r1 0))])) .fail) .fail):=by kernel_rfl
theorem qtA(x0:List UInt8):uo [.s x0]=(let r0:TR:=(wD [(.s [48]),(.s x0)])
 .br (okR r0) (.leaf (0,[(.s (gS r0 0))])) .fail):=by kernel_rfl
theorem qzN(x0:List UInt8)(x1:List UInt8):qbL [.s x0,.s x1]=(let r0:TR:=(zr [(.s x0),(.s x1)])
 .br (okR r0) (.br (inb 0 (qh (gR r0 0))) (.br (inb 4 (qh (gR r0 0))) (let r1:TR:=(zM [(.s (cS (gR r0 0) 0 0)),(.s (cS (gR r0 0) 4 0))])
 .br (okR r1) (.leaf (0,[(.s (gS r1 0))])) .fail) .fail) .fail) .fail):=by kernel_rfl
theorem qpB(x0:List UInt8)(x1:List UInt8)(x2:List UInt8)(x3:List UInt8)(x4:List UInt8)(x5:List UInt8):q2o [.s x0,.s x1,.s x2,.s x3,.s x4,.s x5]=(let r0:TR:=(um [(.s x3),(.s x4),(.s x0),(.s x1)])
 .br (okR r0) (let r1:TR:=(uU [(.s (gS r0 0)),(.s (gS r0 1)),(.s (gS r0 0)),(.s (gS r0 1))])
 .br (okR r1) (.br (seq (gS r1 0) [48]) (.leaf (0,[(.s []),(.s []),(.s []),(.s []),(.s []),(.b false)])) (let r2:TR:=(yd [(.s (gS r1 0)),(.s x2)])
 .br (okR r2) (let r3:TR:=(wD [(.s (gS r2 0)),(.s x5)])
 .br (okR r3) (let r4:TR:=(qR [(.s [50]),(.s (gS r1 0))])
 .br (okR r4) (let r5:TR:=(qbL [(.s (gS r3 0)),(.s (gS r4 0))])
 .br (okR r5) (let r6:TR:=(qbL [(.s x2),(.s (gS r1 0))])
 .br (okR r6) (let r7:TR:=(qR [(.s (gS r5 0)),(.s (gS r5 0))])
 .br (okR r7) (let r8:TR:=(wD [(.s (gS r6 0)),(.s (gS r7 0))])
 .br (okR r8) (let r9:TR:=(qR [(.s (gS r5 0)),(.s (gS r0 0))])
 .br (okR r9) (let r10:TR:=(yd [(.s x0),(.s (gS r9 0))])
 .br (okR r10) (let r11:TR:=(qR [(.s (gS r5 0)),(.s (gS r0 1))])
 .br (okR r11) (let r12:TR:=(yd [(.s x1),(.s (gS r11 0))])
 .br (okR r12) (let r13:TR:=(uo [(.s (gS r0 1))])
 .br (okR r13) (let r14:TR:=(ww [(.s (gS r8 0))])
 .br (okR r14) (.leaf (0,[(.s (gS r10 0)),(.s (gS r12 0)),(.s (gS r13 0)),(.s (gS r0 0)),(.s (gS r8 0)),(.b (ile 0 (gI r14 0)))])) .fail) .fail) .fail) .fail) .fail) .fail) .fail) .fail) .fail) .fail) .fail) .fail) .fail)) .fail) .fail):=by kernel_rfl
theorem qqY(x0:R)(x1:Int)(x2:Int)(x3:Int):uW [.r x0,.i x1,.i x2,.i x3]=(.br (ieq x1 x2) (.br (inb x1 (qh x0)) (.leaf (0,[(.s (cS x0 x1 0)),(.s (cS x0 x1 1)),(.s [48]),(.s [48]),(.s [48]),(.b (ieq x3 0))])) .fail) (.br (inb x1 (qh x0)) (.br (inb x2 (qh x0)) (let r0:TR:=(q2o [(.s (cS x0 x1 0)),(.s (cS x0 x1 1)),(.s (cS x0 x1 2)),(.s (cS x0 x2 0)),(.s (cS x0 x2 1)),(.s (cS x0 x2 2))])
 .br (okR r0) (.br (not (gB r0 5)) (.leaf (0,[(.s []),(.s []),(.s []),(.s []),(.s []),(.b false)])) (.br (not (beq (seq (gS r0 4) [48]) (ieq x3 0))) (.leaf (0,[(.s []),(.s []),(.s []),(.s []),(.s []),(.b false)])) (.br (ilt x3 0) (let r1:TR:=(uo [(.s (gS r0 2))])
 .br (okR r1) (let r2:TR:=(uo [(.s (gS r0 3))])
 .br (okR r2) (.leaf (0,[(.s (gS r0 0)),(.s (gS r0 1)),(.s (gS r1 0)),(.s (gS r2 0)),(.s (gS r0 4)),(.b true)])) .fail) .fail) (.leaf (0,[(.s (gS r0 0)),(.s (gS r0 1)),(.s (gS r0 2)),(.s (gS r0 3)),(.s (gS r0 4)),(.b true)]))))) .fail) .fail) .fail)):=by kernel_rfl
theorem qud(x0:List UInt8)(x1:List UInt8):q1E [.s x0,.s x1]=(let r0:TR:=(zr [(.s x0),(.s x1)])
 .br (okR r0) (.br (inb 0 (qh (gR r0 0))) (.br (inb 1 (qh (gR r0 0))) (let r1:TR:=(ua [(.s (cS (gR r0 0) 0 0)),(.s (cS (gR r0 0) 1 0))])
 .br (okR r1) (.leaf (0,[(.i (gI r1 0))])) .fail) .fail) .fail) .fail):=by kernel_rfl
theorem qx8(x0:List UInt8)(x1:List UInt8)(x2:List UInt8):q9S [.s x0,.s x1,.s x2]=(let r0:TR:=(ww [(.s x0)])
 .br (okR r0) (let r1:TR:=(ww [(.s x1)])
 .br (okR r1) (let r2:TR:=(ww [(.s x2)])
 .br (okR r2) (.br (ile 0 (ux .i64 (gI r0 0) (ux .i64 (gI r1 0) (gI r2 0)))) (.br (ieq (gI r0 0) 0) (.leaf (0,[(.i (ux .i64 (gI r1 0) (gI r2 0)))])) (.leaf (0,[(.i (gI r0 0))]))) (let r3:TR:=(qR [(.s x0),(.s x0)])
 .br (okR r3) (let r4:TR:=(qR [(.s x1),(.s x1)])
 .br (okR r4) (let r5:TR:=(qR [(.s (gS r4 0)),(.s x2)])
 .br (okR r5) (let r6:TR:=(q1E [(.s (gS r3 0)),(.s (gS r5 0))])
 .br (okR r6) (.leaf (0,[(.i (ux .i64 (gI r0 0) (gI r6 0)))])) .fail) .fail) .fail) .fail)) .fail) .fail) .fail):=by kernel_rfl
theorem qtV(x0:List UInt8)(x1:List UInt8)(x2:List UInt8)(x3:List UInt8)(x4:List UInt8)(x5:List UInt8)(x6:List UInt8)(x7:List UInt8):q43 [.s x0,.s x1,.s x2,.s x3,.s x4,.s x5,.s x6,.s x7]=(let r0:TR:=(um [(.s x3),(.s x4),(.s x0),(.s x1)])
 .br (okR r0) (let r1:TR:=(uU [(.s (gS r0 0)),(.s (gS r0 1)),(.s (gS r0 0)),(.s (gS r0 1))])
 .br (okR r1) (let r2:TR:=(uU [(.s x5),(.s x6),(.s x5),(.s x6)])
 .br (okR r2) (let r3:TR:=(qR [(.s x7),(.s (gS r2 0))])
 .br (okR r3) (let r4:TR:=(yd [(.s (gS r1 0)),(.s (gS r3 0))])
 .br (okR r4) (let r5:TR:=(wD [(.s (gS r4 0)),(.s x2)])
 .br (okR r5) (let r6:TR:=(uU [(.s (gS r0 0)),(.s (gS r0 1)),(.s x5),(.s x6)])
 .br (okR r6) (let r7:TR:=(qR [(.s [50]),(.s (gS r6 0))])
 .br (okR r7) (let r8:TR:=(q9S [(.s (gS r5 0)),(.s (gS r7 0)),(.s x7)])
 .br (okR r8) (.leaf (0,[(.b (ile (gI r8 0) 0))])) .fail) .fail) .fail) .fail) .fail) .fail) .fail) .fail) .fail):=by kernel_rfl
theorem q8f(y0:R)(y1:Int)(y2:List UInt8)(y3:List UInt8)(y4:List UInt8)(y5:List UInt8)(y6:List UInt8):q22 [.r y0,.i y1,.s y2,.s y3,.s y4,.s y5,.s y6]=(.br (ilt y1 (qh y0)) (.br (inb y1 (qh y0)) (let r0:TR:=(q43 [(.s (cS y0 y1 0)),(.s (cS y0 y1 1)),(.s (cS y0 y1 2)),(.s y2),(.s y3),(.s y4),(.s y5),(.s y6)])
 .br (okR r0) (.br (not (gB r0 0)) (.leaf (2,[(.b false)])) (.leaf (0,[(.r y0),(.i (qk .i64 y1 1)),(.s y2),(.s y3),(.s y4),(.s y5),(.s y6)]))) .fail) .fail) (.leaf (1,[]))):=by kernel_rfl
theorem qtC(x0:R)(x1:Int)(x2:Int)(x3:Int):zN [.r x0,.i x1,.i x2,.i x3]=(let r0:TR:=(uW [(.r x0),(.i x1),(.i x2),(.i x3)])
 .br (okR r0) (.br (not (gB r0 5)) (.leaf (0,[(.b false)])) (let r1:TR:=(qf q22 [(.r x0),(.i 0),(.s (gS r0 0)),(.s (gS r0 1)),(.s (gS r0 2)),(.s (gS r0 3)),(.s (gS r0 4))])
 .br (okR r1) (.br (jIs r1 0) (.leaf (0,[(.b true)])) (.leaf (0,[(.b (gB r1 0))]))) .fail)) .fail):=by kernel_rfl
theorem qhw(y0:R)(y1:Int)(y2:Int)(y3:Int)(y4:Int):q3h [.r y0,.i y1,.i y2,.i y3,.i y4]=(.br (ilt y1 (qh y0)) (let r0:TR:=(zN [(.r y0),(.i y1),(.i y1),(.i 0)])
 .br (okR r0) (.br (gB r0 0) (.leaf (2,[(.b true),(.i y1),(.i y1),(.i 0)])) (.leaf (0,[(.r y0),(.i (qk .i64 y1 1)),(.i y2),(.i y3),(.i y4)]))) .fail) (.leaf (1,[(.r y0),(.i y2),(.i y3),(.i y4)]))):=by kernel_rfl
theorem qfe(y0:R)(y1:Int)(y2:Int)(y3:Int)(y4:Int)(y5:Int)(y6:Int)(y7:Int)(y8:R):q25 [.r y0,.i y1,.i y2,.i y3,.i y4,.i y5,.i y6,.i y7,.r y8]=(.br (ilt y4 y3) (.br (inb y4 (qh y8)) (let r0:TR:=(zN [(.r y0),(.i y1),(.i y2),(.i (cI y8 y4 0))])
 .br (okR r0) (.br (gB r0 0) (.leaf (2,[(.b true),(.i y1),(.i y2),(.i (cI y8 y4 0))])) (.leaf (0,[(.r y0),(.i y1),(.i y2),(.i y3),(.i (qk .i64 y4 1)),(.i y5),(.i y6),(.i y7),(.r y8)]))) .fail) .fail) (.leaf (1,[(.r y0),(.i y1),(.i y2),(.i y5),(.i y6),(.i y7)]))):=by kernel_rfl
theorem qfP(y0:R)(y1:Int)(y2:Int)(y3:Int)(y4:Int)(y5:Int):q2q [.r y0,.i y1,.i y2,.i y3,.i y4,.i y5]=(.br (ilt y2 (qh y0)) (let r0:TR:=(qf q25 [(.r y0),(.i y1),(.i y2),(.i (qh [[(.i 0)],[(.i 1)],[(.i (-1))]])),(.i 0),(.i y3),(.i y4),(.i y5),(.r [[(.i 0)],[(.i 1)],[(.i (-1))]])])
 .br (okR r0) (.br (jIs r0 0) (.leaf (0,[(.r (gR r0 0)),(.i (gI r0 1)),(.i (qk .i64 (gI r0 2) 1)),(.i (gI r0 3)),(.i (gI r0 4)),(.i (gI r0 5))])) (.leaf (2,[(.b (gB r0 0)),(.i (gI r0 1)),(.i (gI r0 2)),(.i (gI r0 3))]))) .fail) (.leaf (1,[(.r y0),(.i y1),(.i y3),(.i y4),(.i y5)]))):=by kernel_rfl
theorem qfG(y0:R)(y1:Int)(y2:Int)(y3:Int)(y4:Int):q2h [.r y0,.i y1,.i y2,.i y3,.i y4]=(.br (ilt y1 (qh y0)) (let r0:TR:=(qf q2q [(.r y0),(.i y1),(.i (qk .i64 y1 1)),(.i y2),(.i y3),(.i y4)])
 .br (okR r0) (.br (jIs r0 0) (.leaf (0,[(.r (gR r0 0)),(.i (qk .i64 (gI r0 1) 1)),(.i (gI r0 2)),(.i (gI r0 3)),(.i (gI r0 4))])) (.leaf (2,[(.b (gB r0 0)),(.i (gI r0 1)),(.i (gI r0 2)),(.i (gI r0 3))]))) .fail) (.leaf (1,[(.i y2),(.i y3),(.i y4)]))):=by kernel_rfl
theorem qtP(x0:R):zF [.r x0]=(let r0:TR:=(qf q3h [(.r x0),(.i 0),(.i 0),(.i 0),(.i 0)])
 .br (okR r0) (.br (jIs r0 0) (let r1:TR:=(qf q2h [(.r (gR r0 0)),(.i 0),(.i (gI r0 1)),(.i (gI r0 2)),(.i (gI r0 3))])
 .br (okR r1) (.br (jIs r1 0) (.leaf (0,[(.i 0),(.i 0),(.i 0),(.b false)])) (.leaf (0,[(.i (gI r1 1)),(.i (gI r1 2)),(.i (gI r1 3)),(.b (gB r1 0))]))) .fail) (.leaf (0,[(.i (gI r0 1)),(.i (gI r0 2)),(.i (gI r0 3)),(.b (gB r0 0))]))) .fail):=by kernel_rfl
theorem qhB(y0:R)(y1:Int)(y2:Int):q3X [.r y0,.i y1,.i y2]=(.br (ilt y2 (qh y0)) (.br (inb y1 (qh y0)) (.br (inb y2 (qh y0)) (let r0:TR:=(zF [(.r [[(.s (cS y0 y1 0)),(.s (cS y0 y1 1)),(.s (cS y0 y1 2))],[(.s (cS y0 y2 0)),(.s (cS y0 y2 1)),(.s (cS y0 y2 2))]])])
 .br (okR r0) (.br (not (gB r0 3)) (.leaf (2,[(.r [[(.i y1)],[(.i y2)]])])) (.leaf (0,[(.r y0),(.i y1),(.i (qk .i64 y2 1))]))) .fail) .fail) .fail) (.leaf (1,[(.r y0),(.i y1)]))):=by kernel_rfl
theorem qhD(y0:R)(y1:Int):q3o [.r y0,.i y1]=(.br (ilt y1 (qh y0)) (let r0:TR:=(qf q3X [(.r y0),(.i y1),(.i (qk .i64 y1 1))])
 .br (okR r0) (.br (jIs r0 0) (.leaf (0,[(.r (gR r0 0)),(.i (qk .i64 (gI r0 1) 1))])) (.leaf (2,[(.r (gR r0 0))]))) .fail) (.leaf (1,[(.r y0)]))):=by kernel_rfl
theorem qf0(y0:R)(y1:Int)(y2:Int)(y3:Int):q2l [.r y0,.i y1,.i y2,.i y3]=(.br (ilt y3 (qh y0)) (.br (inb y1 (qh y0)) (.br (inb y2 (qh y0)) (.br (inb y3 (qh y0)) (let r0:TR:=(zF [(.r [[(.s (cS y0 y1 0)),(.s (cS y0 y1 1)),(.s (cS y0 y1 2))],[(.s (cS y0 y2 0)),(.s (cS y0 y2 1)),(.s (cS y0 y2 2))],[(.s (cS y0 y3 0)),(.s (cS y0 y3 1)),(.s (cS y0 y3 2))]])])
 .br (okR r0) (.br (not (gB r0 3)) (.leaf (2,[(.r [[(.i y1)],[(.i y2)],[(.i y3)]])])) (.leaf (0,[(.r y0),(.i y1),(.i y2),(.i (qk .i64 y3 1))]))) .fail) .fail) .fail) .fail) (.leaf (1,[(.r y0),(.i y1),(.i y2)]))):=by kernel_rfl
theorem qf4(y0:R)(y1:Int)(y2:Int):q26 [.r y0,.i y1,.i y2]=(.br (ilt y2 (qh y0)) (let r0:TR:=(qf q2l [(.r y0),(.i y1),(.i y2),(.i (qk .i64 y2 1))])
 .br (okR r0) (.br (jIs r0 0) (.leaf (0,[(.r (gR r0 0)),(.i (gI r0 1)),(.i (qk .i64 (gI r0 2) 1))])) (.leaf (2,[(.r (gR r0 0))]))) .fail) (.leaf (1,[(.r y0),(.i y1)]))):=by kernel_rfl
theorem qfY(y0:R)(y1:Int):q2j [.r y0,.i y1]=(.br (ilt y1 (qh y0)) (let r0:TR:=(qf q26 [(.r y0),(.i y1),(.i (qk .i64 y1 1))])
 .br (okR r0) (.br (jIs r0 0) (.leaf (0,[(.r (gR r0 0)),(.i (qk .i64 (gI r0 1) 1))])) (.leaf (2,[(.r (gR r0 0))]))) .fail) (.leaf (1,[]))):=by kernel_rfl
theorem qua(x0:R):q7c [.r x0]=(let r0:TR:=(qf q3o [(.r x0),(.i 0)])
 .br (okR r0) (.br (jIs r0 0) (let r1:TR:=(qf q2j [(.r (gR r0 0)),(.i 0)])
 .br (okR r1) (.br (jIs r1 0) (.leaf (0,[(.r [])])) (.leaf (0,[(.r (gR r1 0))]))) .fail) (.leaf (0,[(.r (gR r0 0))]))) .fail):=by kernel_rfl
theorem qxX(x0:List UInt8)(x1:List UInt8)(x2:List UInt8)(x3:List UInt8):qcc [.s x0,.s x1,.s x2,.s x3]=(let r0:TR:=(um [(.s x0),(.s x1),(.s x2),(.s x3)])
 .br (okR r0) (.br (okR r0) (let r1:TR:=(uU [(.s (gS r0 0)),(.s (gS r0 1)),(.s (gS r0 0)),(.s (gS r0 1))])
 .br (okR r1) (.leaf (0,[(.s (gS r1 0))])) .fail) .fail) .fail):=by kernel_rfl
theorem quF(x0:Int):q4A [.i x0]=(.br (okR (ze [(.i x0)])) (.leaf (0,[(.s (gS (ze [(.i x0)]) 0))])) .fail):=by kernel_rfl
theorem q1O(y0:Int)(y1:Int)(y2:List UInt8)(y3:List UInt8)(y4:List UInt8)(y5:List UInt8)(y6:List UInt8)(y7:R):ym [.i y0,.i y1,.s y2,.s y3,.s y4,.s y5,.s y6,.r y7]=(.br (ilt y1 y0) (.br (inb y1 (qh y7)) (let r0:TR:=(qD [(.s (cS y7 y1 0))])
 .br (okR r0) (.br (ine (gI r0 0) 0) (.leaf (2,[(.b false),(.i (gI r0 0))])) (.leaf (0,[(.i y0),(.i (qk .i64 y1 1)),(.s y2),(.s y3),(.s y4),(.s y5),(.s y6),(.r y7)]))) .fail) .fail) (.leaf (1,[(.s y2),(.s y3),(.s y4),(.s y5),(.s y6)]))):=by kernel_rfl
theorem qfg(x0:List UInt8)(x1:List UInt8)(x2:List UInt8)(x3:List UInt8)(x4:List UInt8):wx [.s x0,.s x1,.s x2,.s x3,.s x4]=(let r0:TR:=(uk [(.s x0),(.s x1),(.s x2)])
 .br (okR r0) (.br (ine (gI r0 0) 0) (.leaf (0,[(.b false),(.i (gI r0 0))])) (let r1:TR:=(qf ym [(.i (qh [[(.s x3)],[(.s x4)]])),(.i 0),(.s x0),(.s x1),(.s x2),(.s x3),(.s x4),(.r [[(.s x3)],[(.s x4)]])])
 .br (okR r1) (.br (jIs r1 0) (let r2:TR:=(yK [(.s (gS r1 0)),(.s (gS r1 1)),(.s (gS r1 3)),(.s (gS r1 4)),(.i 0)])
 .br (okR r2) (let r3:TR:=(yD [(.s (gS r2 0)),(.s (gS r1 2)),(.i (gI r2 1))])
 .br (okR r3) (.br (ile (gI r3 0) 0) (.leaf (0,[(.b (ieq (gI r3 1) 0)),(.i (gI r3 1))])) (.leaf (0,[(.b false),(.i (gI r3 1))]))) .fail) .fail) (.leaf (0,[(.b (gB r1 0)),(.i (gI r1 1))]))) .fail)) .fail):=by kernel_rfl
theorem qxz(x0:R)(x1:R):uX [.r x0,.r x1]=(.br (ile (qh x0) 32) (.leaf (0,[(.b (ile (qh x1) 32))])) (.leaf (0,[(.b false)]))):=by kernel_rfl
theorem qzv(x0:Int):uO [.i x0]=(.br (ile (-100000) x0) (.leaf (0,[(.b (ile x0 100000))])) (.leaf (0,[(.b false)]))):=by kernel_rfl
theorem qw1(x0:Int):ya [.i x0]=(.br (ile 1 x0) (.leaf (0,[(.b (ile x0 100000))])) (.leaf (0,[(.b false)]))):=by kernel_rfl
theorem qu7(x0:Int)(x1:Int)(x2:Int)(x3:Int)(x4:Int)(x5:Int)(x6:Bool):ub [.i x0,.i x1,.i x2,.i x3,.i x4,.i x5,.b x6]=(.br (okR (uO [(.i x0)])) (.br (not (gB (uO [(.i x0)]) 0)) (.leaf (0,[(.i 2)])) (.br (okR (uO [(.i x1)])) (.br (not (gB (uO [(.i x1)]) 0)) (.leaf (0,[(.i 2)])) (.br (okR (ya [(.i x2)])) (.br (not (gB (ya [(.i x2)]) 0)) (.leaf (0,[(.i 2)])) (.br (okR (ya [(.i x3)])) (.br (not (gB (ya [(.i x3)]) 0)) (.leaf (0,[(.i 2)])) (.br (ilt x3 x2) (.leaf (0,[(.i 9)])) (.br (ilt x4 0) (.leaf (0,[(.i 2)])) (.br (ilt 100000 x4) (.leaf (0,[(.i 2)])) (.br (not x6) (.br (ile x2 x4) (.leaf (0,[(.i 2)])) (.br (ilt x5 0) (.leaf (0,[(.i 1)])) (.br (ile 3 x5) (.leaf (0,[(.i 1)])) (.leaf (0,[(.i 0)]))))) (.br (ilt x5 0) (.leaf (0,[(.i 1)])) (.br (ile 3 x5) (.leaf (0,[(.i 1)])) (.leaf (0,[(.i 0)]))))))))) .fail)) .fail)) .fail)) .fail):=by kernel_rfl
theorem qxj(x0:Int)(x1:Int)(x2:Int):q3G [.i x0,.i x1,.i x2]=(.br (okR (uO [(.i x0)])) (.br (not (gB (uO [(.i x0)]) 0)) (.leaf (0,[(.i 2)])) (.br (okR (uO [(.i x1)])) (.br (not (gB (uO [(.i x1)]) 0)) (.leaf (0,[(.i 2)])) (.br (okR (ya [(.i x2)])) (.br (not (gB (ya [(.i x2)]) 0)) (.leaf (0,[(.i 2)])) (.leaf (0,[(.i 0)]))) .fail)) .fail)) .fail):=by kernel_rfl
theorem q3e(y0:R)(y1:R)(y2:R)(y3:Int)(y4:Int):yX [.r y0,.r y1,.r y2,.i y3,.i y4]=(.br (ilt y4 y3) (.br (inb y4 (qh y2)) (let r0:TR:=(ub [(.i (cI y2 y4 0)),(.i (cI y2 y4 1)),(.i (cI y2 y4 2)),(.i (cI y2 y4 3)),(.i (cI y2 y4 4)),(.i (cI y2 y4 5)),(.b (cB y2 y4 6))])
 .br (okR r0) (.br (ine (gI r0 0) 0) (.leaf (2,[(.i (gI r0 0))])) (.leaf (0,[(.r y0),(.r y1),(.r y2),(.i y3),(.i (qk .i64 y4 1))]))) .fail) .fail) (.leaf (1,[(.r y0),(.r y1)]))):=by kernel_rfl
theorem q2N(y0:R)(y1:Int)(y2:Int):yh [.r y0,.i y1,.i y2]=(.br (ilt y2 y1) (.br (inb y2 (qh y0)) (let r0:TR:=(q3G [(.i (cI y0 y2 0)),(.i (cI y0 y2 1)),(.i (cI y0 y2 2))])
 .br (okR r0) (.br (ine (gI r0 0) 0) (.leaf (2,[(.i (gI r0 0))])) (.leaf (0,[(.r y0),(.i y1),(.i (qk .i64 y2 1))]))) .fail) .fail) (.leaf (1,[]))):=by kernel_rfl
theorem qlL(x0:R)(x1:R):zY [.r x0,.r x1]=(.br (ilt 16 (qh x0)) (.leaf (0,[(.i 5)])) (let r0:TR:=(qf yX [(.r x0),(.r x1),(.r x0),(.i (qh x0)),(.i 0)])
 .br (okR r0) (.br (jIs r0 0) (.br (ine (qh (gR r0 1)) (qh (gR r0 0))) (.leaf (0,[(.i 8)])) (let r1:TR:=(qf yh [(.r (gR r0 1)),(.i (qh (gR r0 1))),(.i 0)])
 .br (okR r1) (.br (jIs r1 0) (.leaf (0,[(.i 0)])) (.leaf (0,[(.i (gI r1 0))]))) .fail)) (.leaf (0,[(.i (gI r0 0))]))) .fail)):=by kernel_rfl
theorem qfz(y0:R)(y1:Int)(y2:Int)(y3:R)(y4:R)(y5:Int):q2m [.r y0,.i y1,.i y2,.r y3,.r y4,.i y5]=(.br (ilt y2 y1) (.br (inb y2 (qh y0)) (.br (inb y2 (qh y4)) (.br (ilt (cI y4 y2 2) (cI y0 y2 2)) (.leaf (2,[(.i 14)])) (.br (ilt (cI y0 y2 3) (cI y4 y2 2)) (.leaf (2,[(.i 14)])) (.leaf (0,[(.r y0),(.i y1),(.i (qk .i64 y2 1)),(.r y3),(.r y4),(.i y5)])))) .fail) .fail) (.leaf (1,[(.r y3),(.r y4),(.i y5)]))):=by kernel_rfl
theorem qtO(x0:R)(x1:R)(x2:Int):uh [.r x0,.r x1,.i x2]=(let r0:TR:=(zY [(.r x0),(.r x1)])
 .br (okR r0) (.br (ine (gI r0 0) 0) (.leaf (0,[(.i (gI r0 0))])) (.br (ieq (qh x0) 0) (.leaf (0,[(.i 13)])) (let r1:TR:=(qf q2m [(.r x0),(.i (qh x0)),(.i 0),(.r x0),(.r x1),(.i x2)])
 .br (okR r1) (.br (jIs r1 0) (.br (ilt (gI r1 2) (-1)) (.leaf (0,[(.i 2)])) (.br (ilt 100000 (gI r1 2)) (.leaf (0,[(.i 2)])) (.leaf (0,[(.i 0)])))) (.leaf (0,[(.i (gI r1 0))]))) .fail))) .fail):=by kernel_rfl
theorem qzL(x0:Int)(x1:Int)(x2:Int)(x3:Int)(x4:Int)(x5:Int)(x6:Bool):q8L [.i x0,.i x1,.i x2,.i x3,.i x4,.i x5,.b x6]=(.br x6 (.br (ieq x5 2) (.leaf (0,[(.i x0),(.i x1),(.i x2),(.i x3),(.i x4),(.i x5),(.b x6),(.i (cI [[(.i (-1)),(.i (-1)),(.i 1),(.i 1),(.i 1),(.i (-1))]] 0 5))])) (.br (ieq x5 1) (.leaf (0,[(.i x0),(.i x1),(.i x2),(.i x3),(.i x4),(.i x5),(.b x6),(.i (cI [[(.i (-1)),(.i (-1)),(.i 1),(.i 1),(.i 1),(.i (-1))]] 0 4))])) (.br (ieq x5 0) (.leaf (0,[(.i x0),(.i x1),(.i x2),(.i x3),(.i x4),(.i x5),(.b x6),(.i (cI [[(.i (-1)),(.i (-1)),(.i 1),(.i 1),(.i 1),(.i (-1))]] 0 3))])) .fail))) (.br (ieq x5 2) (.leaf (0,[(.i x0),(.i x1),(.i x2),(.i x3),(.i x4),(.i x5),(.b x6),(.i (cI [[(.i (-1)),(.i (-1)),(.i 1),(.i 1),(.i 1),(.i (-1))]] 0 2))])) (.br (ieq x5 1) (.leaf (0,[(.i x0),(.i x1),(.i x2),(.i x3),(.i x4),(.i x5),(.b x6),(.i (cI [[(.i (-1)),(.i (-1)),(.i 1),(.i 1),(.i 1),(.i (-1))]] 0 1))])) (.br (ieq x5 0) (.leaf (0,[(.i x0),(.i x1),(.i x2),(.i x3),(.i x4),(.i x5),(.b x6),(.i (cI [[(.i (-1)),(.i (-1)),(.i 1),(.i 1),(.i 1),(.i (-1))]] 0 0))])) .fail)))):=by kernel_rfl
theorem qi1(x0:Int)(x1:Int)(x2:Int)(x3:Int)(x4:Int)(x5:Int)(x6:Bool)(x7:Int)(x8:Int):yk [.i x0,.i x1,.i x2,.i x3,.i x4,.i x5,.b x6,.i x7,.i x8]=(.br (ilt x8 0) (.leaf (0,[(.i x2)])) (.leaf (0,[(.i x3)]))):=by kernel_rfl
theorem qfK(x0:Int)(x1:Int)(x2:Int)(x3:Int)(x4:Int)(x5:Int)(x6:Bool)(x7:Int)(x8:Int):zB [.i x0,.i x1,.i x2,.i x3,.i x4,.i x5,.b x6,.i x7,.i x8]=(.br (ieq x5 0) (.leaf (0,[(.i 0)])) (let r0:TR:=(yk [(.i x0),(.i x1),(.i x2),(.i x3),(.i x4),(.i x5),(.b x6),(.i x7),(.i x7)])
 .br (okR r0) (.leaf (0,[(.i (ux .i64 x7 (qA .i64 (gI r0 0) x8)))])) .fail)):=by kernel_rfl
theorem qtB(x0:Int)(x1:Int)(x2:Int)(x3:Int)(x4:Int)(x5:Int)(x6:Bool)(x7:Int):q0v [.i x0,.i x1,.i x2,.i x3,.i x4,.i x5,.b x6,.i x7]=(.br (ile x2 x7) (.leaf (0,[(.b (ile x7 x3))])) (.leaf (0,[(.b false)]))):=by kernel_rfl
theorem qut(x0:Int)(x1:Int)(x2:Int)(x3:Int)(x4:Int)(x5:Int)(x6:Bool)(x7:Int):q7q [.i x0,.i x1,.i x2,.i x3,.i x4,.i x5,.b x6,.i x7]=(let r0:TR:=(ub [(.i x0),(.i x1),(.i x2),(.i x3),(.i x4),(.i x5),(.b x6)])
 .br (okR r0) (.br (ine (gI r0 0) 0) (.leaf (0,[(.i 0),(.i (gI r0 0))])) (let r1:TR:=(q0v [(.i x0),(.i x1),(.i x2),(.i x3),(.i x4),(.i x5),(.b x6),(.i x7)])
 .br (okR r1) (.br (not (gB r1 0)) (.leaf (0,[(.i 0),(.i 2)])) (let r2:TR:=(q8L [(.i x0),(.i x1),(.i x2),(.i x3),(.i x4),(.i x5),(.b x6)])
 .br (okR r2) (let r3:TR:=(zB [(.i (gI r2 0)),(.i (gI r2 1)),(.i (gI r2 2)),(.i (gI r2 3)),(.i (gI r2 4)),(.i (gI r2 5)),(.b (gB r2 6)),(.i (gI r2 7)),(.i x7)])
 .br (okR r3) (.leaf (0,[(.i (gI r3 0)),(.i 0)])) .fail) .fail)) .fail)) .fail):=by kernel_rfl
theorem qqM(x0:Int)(x1:Int)(x2:Int)(x3:Int)(x4:Int)(x5:Int)(x6:Bool)(x7:Int):uV [.i x0,.i x1,.i x2,.i x3,.i x4,.i x5,.b x6,.i x7]=(let r0:TR:=(q7q [(.i x0),(.i x1),(.i x2),(.i x3),(.i x4),(.i x5),(.b x6),(.i x7)])
 .br (okR r0) (.br (ine (gI r0 1) 0) (.leaf (0,[(.i 0),(.i (gI r0 1))])) (.leaf (0,[(.i (qk .i64 x4 (gI r0 0))),(.i 0)]))) .fail):=by kernel_rfl
theorem qj4(y0:List UInt8)(y1:List UInt8)(y2:Int)(y3:Int)(y4:R):q2F [.s y0,.s y1,.i y2,.i y3,.r y4]=(.br (ilt y3 y2) (.br (inb y3 (qh y4)) (let r0:TR:=(qQ [(.s (cS y4 y3 0))])
 .br (okR r0) (.br (ine (gI r0 0) 0) (.leaf (2,[(.s []),(.i (gI r0 0))])) (.leaf (0,[(.s y0),(.s y1),(.i y2),(.i (qk .i64 y3 1)),(.r y4)]))) .fail) .fail) (.leaf (1,[(.s y0),(.s y1)]))):=by kernel_rfl
theorem qw8(x0:List UInt8)(x1:List UInt8):q9C [.s x0,.s x1]=(let r0:TR:=(qf q2F [(.s x0),(.s x1),(.i (qh [[(.s x0)],[(.s x1)]])),(.i 0),(.r [[(.s x0)],[(.s x1)]])])
 .br (okR r0) (.br (jIs r0 0) (.br (seq (gS r0 1) [48]) (.leaf (0,[(.s []),(.i 10)])) (let r1:TR:=(qG [(.s (gS r0 0)),(.s (gS r0 1)),(.i 0)])
 .br (okR r1) (.br (ine (gI r1 1) 0) (.leaf (0,[(.s []),(.i (gI r1 1))])) (.leaf (0,[(.s (gS r1 0)),(.i 0)]))) .fail)) (.leaf (0,[(.s (gS r0 0)),(.i (gI r0 1))]))) .fail):=by kernel_rfl
theorem qAy(x0:Int)(x1:Int):qfV [.i x0,.i x1]=(let r0:TR:=(zt [(.i x0)])
 .br (okR r0) (let r1:TR:=(zt [(.i x1)])
 .br (okR r1) (let r2:TR:=(q9C [(.s (gS r0 0)),(.s (gS r1 0))])
 .br (okR r2) (.leaf (0,[(.s (gS r2 0)),(.i (gI r2 1))])) .fail) .fail) .fail):=by kernel_rfl
theorem quk(x0:Int):q4d [.i x0]=(.br (okR (zt [(.i x0)])) (.leaf (0,[(.s (gS (zt [(.i x0)]) 0))])) .fail):=by kernel_rfl
theorem qs5(x0:Int)(x1:Int)(x2:Int):ur [.i x0,.i x1,.i x2]=(let r0:TR:=(qfV [(.i (ux .i64 x2 x2)),(.i 4)])
 .br (okR r0) (.br (ine (gI r0 1) 0) (.leaf (0,[(.s []),(.s []),(.s []),(.i (gI r0 1))])) (let r1:TR:=(q4d [(.i x0)])
 .br (okR r1) (let r2:TR:=(q4d [(.i x1)])
 .br (okR r2) (.leaf (0,[(.s (gS r1 0)),(.s (gS r2 0)),(.s (gS r0 0)),(.i 0)])) .fail) .fail)) .fail):=by kernel_rfl
theorem q7Y(y0:R)(y1:Int)(y2:Int)(y3:R)(y4:R)(y5:Int)(y6:R):wV [.r y0,.i y1,.i y2,.r y3,.r y4,.i y5,.r y6]=(.br (ilt y2 y1) (.br (inb y2 (qh y0)) (.br (inb y2 (qh y4)) (let r0:TR:=(uV [(.i (cI y0 y2 0)),(.i (cI y0 y2 1)),(.i (cI y0 y2 2)),(.i (cI y0 y2 3)),(.i (cI y0 y2 4)),(.i (cI y0 y2 5)),(.b (cB y0 y2 6)),(.i (cI y4 y2 2))])
 .br (okR r0) (.br (ine (gI r0 1) 0) (.leaf (2,[(.i (gI r0 1))])) (let r1:TR:=(ur [(.i (qA .i64 (cI y0 y2 0) (cI y4 y2 0))),(.i (qA .i64 (cI y0 y2 1) (cI y4 y2 1))),(.i (gI r0 0))])
 .br (okR r1) (.br (ine (gI r1 3) 0) (.leaf (2,[(.i (gI r1 3))])) (.br (ile ((qh y6)+(qh [[(.s (gS r1 0)),(.s (gS r1 1)),(.s (gS r1 2))]])) 2932031007402) (.leaf (0,[(.r y0),(.i y1),(.i (qk .i64 y2 1)),(.r y3),(.r y4),(.i y5),(.r (qdX y6 [[(.s (gS r1 0)),(.s (gS r1 1)),(.s (gS r1 2))]]))])) .fail)) .fail)) .fail) .fail) .fail) (.leaf (1,[(.r y6)]))):=by kernel_rfl
theorem qji(x0:R)(x1:R)(x2:Int):wN [.r x0,.r x1,.i x2]=(let r0:TR:=(qf wV [(.r x0),(.i (qh x0)),(.i 0),(.r x0),(.r x1),(.i x2),(.r [])])
 .br (okR r0) (.br (jIs r0 0) (.leaf (0,[(.r (gR r0 0)),(.i 0)])) (.leaf (0,[(.r []),(.i (gI r0 0))]))) .fail):=by kernel_rfl
theorem qqX(x0:R)(x1:Int):uZ [.r x0,.i x1]=(.br (ilt x1 0) (.leaf (0,[(.r x0),(.i 0)])) (let r0:TR:=(ur [(.i 0),(.i 0),(.i x1)])
 .br (okR r0) (.br (ine (gI r0 3) 0) (.leaf (0,[(.r []),(.i (gI r0 3))])) (.br (q6E (qh x0) (qh x0)) (.br (q6E 0 (qh x0)) (.br (ieq (qh x0) (qh x0)) (.br (ilt 0 (qh [[(.s (gS r0 0)),(.s (gS r0 1)),(.s (gS r0 2))]])) (.br (ile ((qh (qyh x0 0 (qh x0)))+(qh [[(.s (gS r0 0)),(.s (gS r0 1)),(.s (gS r0 2))]])) 2932031007402) (.leaf (0,[(.r (qdX (qyh x0 0 (qh x0)) [[(.s (gS r0 0)),(.s (gS r0 1)),(.s (gS r0 2))]])),(.i 0)])) .fail) .fail) .fail) .fail) .fail)) .fail)):=by kernel_rfl
theorem qub(x0:R)(x1:R)(x2:Int):zg [.r x0,.r x1,.i x2]=(let r0:TR:=(uh [(.r x0),(.r x1),(.i x2)])
 .br (okR r0) (.br (ine (gI r0 0) 0) (.leaf (0,[(.r []),(.i (gI r0 0))])) (let r1:TR:=(wN [(.r x0),(.r x1),(.i x2)])
 .br (okR r1) (.br (ine (gI r1 1) 0) (.leaf (0,[(.r []),(.i (gI r1 1))])) (let r2:TR:=(uZ [(.r (gR r1 0)),(.i x2)])
 .br (okR r2) (.leaf (0,[(.r (gR r2 0)),(.i (gI r2 1))])) .fail)) .fail)) .fail):=by kernel_rfl
theorem q7e(y0:R)(y1:Int)(y2:Int)(y3:List UInt8)(y4:List UInt8)(y5:R):uu [.r y0,.i y1,.i y2,.s y3,.s y4,.r y5]=(.br (ilt y2 y1) (.br (inb y2 (qh y5)) (let r0:TR:=(qD [(.s (cS y5 y2 0))])
 .br (okR r0) (.br (ine (gI r0 0) 0) (.leaf (2,[(.b false),(.i (gI r0 0))])) (.leaf (0,[(.r y0),(.i y1),(.i (qk .i64 y2 1)),(.s y3),(.s y4),(.r y5)]))) .fail) .fail) (.leaf (1,[(.r y0),(.s y3),(.s y4)]))):=by kernel_rfl
theorem qhT(y0:R)(y1:Int)(y2:Int)(y3:List UInt8)(y4:List UInt8):q1k [.r y0,.i y1,.i y2,.s y3,.s y4]=(.br (ilt y2 y1) (.br (inb y2 (qh y0)) (let r0:TR:=(wx [(.s (cS y0 y2 0)),(.s (cS y0 y2 1)),(.s (cS y0 y2 2)),(.s y3),(.s y4)])
 .br (okR r0) (.br (ine (gI r0 1) 0) (.leaf (2,[(.b false),(.i (gI r0 1))])) (.br (not (gB r0 0)) (.leaf (2,[(.b false),(.i (gI r0 1))])) (.leaf (0,[(.r y0),(.i y1),(.i (qk .i64 y2 1)),(.s y3),(.s y4)])))) .fail) .fail) (.leaf (1,[]))):=by kernel_rfl
theorem qge(x0:R)(x1:R)(x2:Int)(x3:List UInt8)(x4:List UInt8):uw [.r x0,.r x1,.i x2,.s x3,.s x4]=(let r0:TR:=(zg [(.r x0),(.r x1),(.i x2)])
 .br (okR r0) (.br (ine (gI r0 1) 0) (.leaf (0,[(.b false),(.i (gI r0 1))])) (let r1:TR:=(qf uu [(.r (gR r0 0)),(.i (qh [[(.s x3)],[(.s x4)]])),(.i 0),(.s x3),(.s x4),(.r [[(.s x3)],[(.s x4)]])])
 .br (okR r1) (.br (jIs r1 0) (let r2:TR:=(qf q1k [(.r (gR r1 0)),(.i (qh (gR r1 0))),(.i 0),(.s (gS r1 1)),(.s (gS r1 2))])
 .br (okR r2) (.br (jIs r2 0) (.leaf (0,[(.b true),(.i 0)])) (.leaf (0,[(.b (gB r2 0)),(.i (gI r2 1))]))) .fail) (.leaf (0,[(.b (gB r1 0)),(.i (gI r1 1))]))) .fail)) .fail):=by kernel_rfl
theorem qpa(x0:R)(x1:R)(x2:Int):qw [.r x0,.r x1,.i x2]=(let r0:TR:=(zg [(.r x0),(.r x1),(.i x2)])
 .br (okR r0) (.br (ine (gI r0 1) 0) (.leaf (0,[(.b false),(.i 0),(.i 0),(.i 0),(.i (gI r0 1))])) (let r1:TR:=(q0s [(.r (gR r0 0))])
 .br (okR r1) (.leaf (0,[(.b (gB r1 0)),(.i (gI r1 1)),(.i (gI r1 2)),(.i (gI r1 3)),(.i (gI r1 4))])) .fail)) .fail):=by kernel_rfl
theorem qhY(x0:R)(x1:R)(x2:Int):wi [.r x0,.r x1,.i x2]=(let r0:TR:=(zg [(.r x0),(.r x1),(.i x2)])
 .br (okR r0) (.br (ine (gI r0 1) 0) (.leaf (0,[(.r []),(.i (gI r0 1))])) (let r1:TR:=(ye [(.r (gR r0 0))])
 .br (okR r1) (.leaf (0,[(.r (gR r1 0)),(.i (gI r1 1))])) .fail)) .fail):=by kernel_rfl
theorem qi4(x0:Int)(x1:R)(x2:Int):zy [.i x0,.r x1,.i x2]=(let r0:TR:=(uZ [(.r x1),(.i x0)])
 .br (okR r0) (.br (ine (gI r0 1) 0) (.leaf (0,[(.b true),(.r x1),(.i (gI r0 1))])) (let r1:TR:=(q0s [(.r (gR r0 0))])
 .br (okR r1) (.br (ine (gI r1 4) 0) (.leaf (0,[(.b true),(.r x1),(.i (gI r1 4))])) (.leaf (0,[(.b (gB r1 0)),(.r x1),(.i x2)]))) .fail)) .fail):=by kernel_rfl
theorem qqK(y0:Int)(y1:Int)(y2:R)(y3:Int):q3m [.i y0,.i y1,.r y2,.i y3]=(.br (ilt y0 y1) (let r0:TR:=(zy [(.i (yi .i64 (qk .i64 y0 y1) 2)),(.r y2),(.i y3)])
 .br (okR r0) (.br (gB r0 0) (.leaf (0,[(.i y0),(.i (yi .i64 (qk .i64 y0 y1) 2)),(.r (gR r0 1)),(.i (gI r0 2))])) (.leaf (0,[(.i (qk .i64 (yi .i64 (qk .i64 y0 y1) 2) 1)),(.i y1),(.r (gR r0 1)),(.i (gI r0 2))]))) .fail) (.leaf (1,[(.i y0),(.r y2),(.i y3)]))):=by kernel_rfl
theorem quD(x0:Int)(x1:Int)(x2:R)(x3:Int):q7b [.i x0,.i x1,.r x2,.i x3]=(let r0:TR:=(qf q3m [(.i x0),(.i x1),(.r x2),(.i x3)])
 .br (okR r0) (.leaf (0,[(.i (gI r0 0)),(.r (gR r0 1)),(.i (gI r0 2))])) .fail):=by kernel_rfl
theorem qt1(x0:R)(x1:R)(x2:Int):zQ [.r x0,.r x1,.i x2]=(let r0:TR:=(uh [(.r x0),(.r x1),(.i x2)])
 .br (okR r0) (.br (ine (gI r0 0) 0) (.leaf (0,[(.i 0),(.i (gI r0 0))])) (let r1:TR:=(wN [(.r x0),(.r x1),(.i x2)])
 .br (okR r1) (.br (ine (gI r1 1) 0) (.leaf (0,[(.i 0),(.i (gI r1 1))])) (let r2:TR:=(zy [(.i 100000),(.r (gR r1 0)),(.i 0)])
 .br (okR r2) (.br (not (gB r2 0)) (.leaf (0,[(.i 0),(.i 6)])) (let r3:TR:=(q7b [(.i 0),(.i 100000),(.r (gR r2 1)),(.i (gI r2 2))])
 .br (okR r3) (.br (ine (gI r3 2) 0) (.leaf (0,[(.i 0),(.i (gI r3 2))])) (.leaf (0,[(.i (gI r3 0)),(.i 0)]))) .fail)) .fail)) .fail)) .fail):=by kernel_rfl
theorem qxP(x0:Int)(x1:Int)(x2:Int):q6b [.i x0,.i x1,.i x2]=(.leaf (0,[(.r [[(.i 0),(.i 0),(.i 20),(.i 24),(.i 4),(.i 1),(.b false)],[(.i 50),(.i 0),(.i 20),(.i 24),(.i 4),(.i 1),(.b false)]]),(.r [[(.i x0),(.i 0),(.i x2)],[(.i x1),(.i 0),(.i x2)]]),(.i (-1))])):=by kernel_rfl
theorem qtN  : qo []=(let r0:TR:=(q6b [(.i 3),(.i 53),(.i 20)])
 .br (okR r0) (let r1:TR:=(qw [(.r (gR r0 0)),(.r (gR r0 1)),(.i (gI r0 2))])
 .br (okR r1) (.br (okR r0) (let r2:TR:=(uw [(.r (gR r0 0)),(.r (gR r0 1)),(.i (gI r0 2)),(.s [45,49]),(.s [48])])
 .br (okR r2) (.br (okR r0) (let r3:TR:=(zQ [(.r (gR r0 0)),(.r (gR r0 1)),(.i (gI r0 2))])
 .br (okR r3) (.br (ine (qk .i64 (qk .i64 (gI r1 4) (gI r2 1)) (gI r3 1)) 0) (.leaf (0,[(.b false)])) (.br (not (gB r1 0)) (.leaf (0,[(.b false)])) (.br (not (gB r2 0)) (.leaf (0,[(.b false)])) (.br (ine (gI r3 0) 2) (.leaf (0,[(.b false)])) (let r4:TR:=(q6b [(.i (-3)),(.i 53),(.i 20)])
 .br (okR r4) (let r5:TR:=(qw [(.r (gR r4 0)),(.r (gR r4 1)),(.i (gI r4 2))])
 .br (okR r5) (.br (okR r4) (let r6:TR:=(wi [(.r (gR r4 0)),(.r (gR r4 1)),(.i (gI r4 2))])
 .br (okR r6) (let r7:TR:=(q6b [(.i (-3)),(.i 53),(.i 22)])
 .br (okR r7) (let r8:TR:=(uw [(.r (gR r7 0)),(.r (gR r7 1)),(.i (gI r7 2)),(.s [48]),(.s [48])])
 .br (okR r8) (.br (okR r0) (let r9:TR:=(zg [(.r (gR r0 0)),(.r (gR r0 1)),(.i (gI r0 2))])
 .br (okR r9) (.br (ieq (qk .i64 (qk .i64 (qk .i64 (gI r5 4) (gI r6 1)) (gI r8 1)) (gI r9 1)) 0) (.br (not (gB r5 0)) (.br (gB r8 0) (let r10:TR:=(zW [(.r (gR r6 0)),(.r [[(.i 0)],[(.i 1)]])])
 .br (okR r10) (.br (gB r10 0) (.br (ieq (qh (gR r9 0)) 2) (.br (inb 0 (qh (gR r9 0))) (.leaf (0,[(.b (qxm (qxm (seq (cS (gR r9 0) 0 0) [45,51]) (qxm (seq (cS (gR r9 0) 0 1) [48]) true)) (qxm (seq (cS (gR r9 0) 0 2) [52]) true)))])) .fail) (.leaf (0,[(.b false)]))) (.leaf (0,[(.b false)]))) .fail) (.leaf (0,[(.b false)]))) (.leaf (0,[(.b false)]))) (.leaf (0,[(.b false)]))) .fail) .fail) .fail) .fail) .fail) .fail) .fail) .fail))))) .fail) .fail) .fail) .fail) .fail) .fail):=by kernel_rfl
theorem qAj(x0:Int):q6A [.i x0]=(.br (ile (-100000) x0) (.leaf (0,[(.b (ile x0 100000))])) (.leaf (0,[(.b false)]))):=by kernel_rfl
theorem qug(x0:Int)(x1:Int):uf [.i x0,.i x1]=(.br (okR (q6A [(.i x0)])) (.br (gB (q6A [(.i x0)]) 0) (.br (okR (q6A [(.i x1)])) (.leaf (0,[(.b (gB (q6A [(.i x1)]) 0))])) .fail) (.leaf (0,[(.b false)]))) .fail):=by kernel_rfl
theorem qwm(x0:Int):jV [.i x0]=(.br (ile 1 x0) (.leaf (0,[(.b (ile x0 100000))])) (.leaf (0,[(.b false)]))):=by kernel_rfl
theorem quw(x0:Int)(x1:Int)(x2:Int)(x3:Int)(x4:Int)(x5:Int)(x6:Bool):q1U [.i x0,.i x1,.i x2,.i x3,.i x4,.i x5,.b x6]=(.br (okR (uf [(.i x0),(.i x1)])) (.br (not (gB (uf [(.i x0),(.i x1)]) 0)) (.leaf (0,[(.i 2)])) (.br (okR (jV [(.i x2)])) (.br (not (gB (jV [(.i x2)]) 0)) (.leaf (0,[(.i 2)])) (.br (okR (jV [(.i x3)])) (.br (not (gB (jV [(.i x3)]) 0)) (.leaf (0,[(.i 2)])) (.br (ilt x3 x2) (.leaf (0,[(.i 9)])) (.br (ilt x4 0) (.leaf (0,[(.i 2)])) (.br (ilt 100000 x4) (.leaf (0,[(.i 2)])) (.br (not x6) (.br (ile x2 x4) (.leaf (0,[(.i 2)])) (.br (ilt x5 0) (.leaf (0,[(.i 1)])) (.br (ilt 2 x5) (.leaf (0,[(.i 1)])) (.leaf (0,[(.i 0)]))))) (.br (ilt x5 0) (.leaf (0,[(.i 1)])) (.br (ilt 2 x5) (.leaf (0,[(.i 1)])) (.leaf (0,[(.i 0)]))))))))) .fail)) .fail)) .fail):=by kernel_rfl
theorem qxi(x0:Int)(x1:Int)(x2:Int):q3q [.i x0,.i x1,.i x2]=(.br (okR (uf [(.i x0),(.i x1)])) (.br (not (gB (uf [(.i x0),(.i x1)]) 0)) (.leaf (0,[(.i 2)])) (.br (okR (jV [(.i x2)])) (.br (not (gB (jV [(.i x2)]) 0)) (.leaf (0,[(.i 2)])) (.leaf (0,[(.i 0)]))) .fail)) .fail):=by kernel_rfl
theorem q3R(y0:R)(y1:R)(y2:Int):u4 [.r y0,.r y1,.i y2]=(.br (ilt y2 (qh y0)) (.br (inb y2 (qh y0)) (let r0:TR:=(q1U [(.i (cI y0 y2 0)),(.i (cI y0 y2 1)),(.i (cI y0 y2 2)),(.i (cI y0 y2 3)),(.i (cI y0 y2 4)),(.i (cI y0 y2 5)),(.b (cB y0 y2 6))])
 .br (okR r0) (.br (ine (gI r0 0) 0) (.leaf (2,[(.i (gI r0 0))])) (.leaf (0,[(.r y0),(.r y1),(.i (qk .i64 y2 1))]))) .fail) .fail) (.leaf (1,[(.r y0),(.r y1)]))):=by kernel_rfl
theorem q2K(y0:R)(y1:Int):jW [.r y0,.i y1]=(.br (ilt y1 (qh y0)) (.br (inb y1 (qh y0)) (let r0:TR:=(q3q [(.i (cI y0 y1 0)),(.i (cI y0 y1 1)),(.i (cI y0 y1 2))])
 .br (okR r0) (.br (ine (gI r0 0) 0) (.leaf (2,[(.i (gI r0 0))])) (.leaf (0,[(.r y0),(.i (qk .i64 y1 1))]))) .fail) .fail) (.leaf (1,[]))):=by kernel_rfl
theorem qlt(x0:R)(x1:R):yq [.r x0,.r x1]=(.br (ilt 16 (qh x0)) (.leaf (0,[(.i 5)])) (let r0:TR:=(qf u4 [(.r x0),(.r x1),(.i 0)])
 .br (okR r0) (.br (jIs r0 0) (.br (ine (qh (gR r0 1)) (qh (gR r0 0))) (.leaf (0,[(.i 8)])) (let r1:TR:=(qf jW [(.r (gR r0 1)),(.i 0)])
 .br (okR r1) (.br (jIs r1 0) (.leaf (0,[(.i 0)])) (.leaf (0,[(.i (gI r1 0))]))) .fail)) (.leaf (0,[(.i (gI r0 0))]))) .fail)):=by kernel_rfl
theorem qrU(x0:Int)(x1:Int)(x2:Int)(x3:Int)(x4:Int)(x5:Int)(x6:Bool)(x7:Int):q2u [.i x0,.i x1,.i x2,.i x3,.i x4,.i x5,.b x6,.i x7]=(.br (ile x2 x7) (.leaf (0,[(.b (ile x7 x3))])) (.leaf (0,[(.b false)]))):=by kernel_rfl
theorem qfr(y0:Int)(y1:R)(y2:R)(y3:Int):q2d [.i y0,.r y1,.r y2,.i y3]=(.br (ilt y0 (qh y1)) (.br (inb y0 (qh y1)) (.br (inb y0 (qh y2)) (let r0:TR:=(q2u [(.i (cI y1 y0 0)),(.i (cI y1 y0 1)),(.i (cI y1 y0 2)),(.i (cI y1 y0 3)),(.i (cI y1 y0 4)),(.i (cI y1 y0 5)),(.b (cB y1 y0 6)),(.i (cI y2 y0 2))])
 .br (okR r0) (.br (not (gB r0 0)) (.leaf (2,[(.i 14)])) (.leaf (0,[(.i (qk .i64 y0 1)),(.r y1),(.r y2),(.i y3)]))) .fail) .fail) .fail) (.leaf (1,[(.r y1),(.r y2),(.i y3)]))):=by kernel_rfl
theorem quB(x0:R)(x1:R)(x2:Int):qE [.r x0,.r x1,.i x2]=(let r0:TR:=(yq [(.r x0),(.r x1)])
 .br (okR r0) (.br (ine (gI r0 0) 0) (.leaf (0,[(.i (gI r0 0))])) (.br (ieq (qh x0) 0) (.leaf (0,[(.i 13)])) (let r1:TR:=(qf q2d [(.i 0),(.r x0),(.r x1),(.i x2)])
 .br (okR r1) (.br (jIs r1 0) (.br (ilt (gI r1 2) (-1)) (.leaf (0,[(.i 2)])) (.br (ilt 100000 (gI r1 2)) (.leaf (0,[(.i 2)])) (.leaf (0,[(.i 0)])))) (.leaf (0,[(.i (gI r1 0))]))) .fail))) .fail):=by kernel_rfl
theorem qw7(x0:Int)(x1:Int):q9z [.i x0,.i x1]=(let r0:TR:=(ze [(.i x0)])
 .br (okR r0) (let r1:TR:=(ze [(.i x1)])
 .br (okR r1) (let r2:TR:=(zM [(.s (gS r0 0)),(.s (gS r1 0))])
 .br (okR r2) (.leaf (0,[(.s (gS r2 0))])) .fail) .fail) .fail):=by kernel_rfl
theorem qta(x0:Int)(x1:Int)(x2:Int):q0E [.i x0,.i x1,.i x2]=(let r0:TR:=(q9z [(.i x2),(.i 2)])
 .br (okR r0) (let r1:TR:=(q4A [(.i x0)])
 .br (okR r1) (let r2:TR:=(q4A [(.i x1)])
 .br (okR r2) (let r3:TR:=(qR [(.s (gS r0 0)),(.s (gS r0 0))])
 .br (okR r3) (.leaf (0,[(.s (gS r1 0)),(.s (gS r2 0)),(.s (gS r3 0))])) .fail) .fail) .fail) .fail):=by kernel_rfl
theorem qu8(x0:Int)(x1:Int)(x2:Int)(x3:Int)(x4:Int)(x5:Int)(x6:Bool)(x7:Int):q1R [.i x0,.i x1,.i x2,.i x3,.i x4,.i x5,.b x6,.i x7]=(.br (ieq x5 0) (.leaf (0,[(.i 0)])) (.br (not (beq (ieq x5 1) x6)) (.leaf (0,[(.i (qA .i64 x7 x2))])) (.leaf (0,[(.i (qA .i64 x3 x7))])))):=by kernel_rfl
theorem qkT(y0:Int)(y1:R)(y2:R)(y3:Int)(y4:R):q46 [.i y0,.r y1,.r y2,.i y3,.r y4]=(.br (ilt y0 (qh y1)) (.br (inb y0 (qh y1)) (.br (inb y0 (qh y2)) (let r0:TR:=(q1R [(.i (cI y1 y0 0)),(.i (cI y1 y0 1)),(.i (cI y1 y0 2)),(.i (cI y1 y0 3)),(.i (cI y1 y0 4)),(.i (cI y1 y0 5)),(.b (cB y1 y0 6)),(.i (cI y2 y0 2))])
 .br (okR r0) (let r1:TR:=(q0E [(.i (qA .i64 (cI y1 y0 0) (cI y2 y0 0))),(.i (qA .i64 (cI y1 y0 1) (cI y2 y0 1))),(.i (qk .i64 (cI y1 y0 4) (gI r0 0)))])
 .br (okR r1) (.br (ile ((qh y4)+(qh [[(.s (gS r1 0)),(.s (gS r1 1)),(.s (gS r1 2))]])) 2932031007402) (.leaf (0,[(.i (qk .i64 y0 1)),(.r y1),(.r y2),(.i y3),(.r (qdX y4 [[(.s (gS r1 0)),(.s (gS r1 1)),(.s (gS r1 2))]]))])) .fail) .fail) .fail) .fail) .fail) (.leaf (1,[(.r y1),(.r y2),(.i y3),(.r y4)]))):=by kernel_rfl
theorem qxs(x0:R)(x1:R)(x2:Int):wM [.r x0,.r x1,.i x2]=(let r0:TR:=(qf q46 [(.i 0),(.r x0),(.r x1),(.i x2),(.r [])])
 .br (okR r0) (.br (ile 0 (gI r0 2)) (let r1:TR:=(q0E [(.i 0),(.i 0),(.i (gI r0 2))])
 .br (okR r1) (.br (ile ((qh (gR r0 3))+(qh [[(.s (gS r1 0)),(.s (gS r1 1)),(.s (gS r1 2))]])) 2932031007402) (.leaf (0,[(.r (qdX (gR r0 3) [[(.s (gS r1 0)),(.s (gS r1 1)),(.s (gS r1 2))]]))])) .fail) .fail) (.leaf (0,[(.r (gR r0 3))]))) .fail):=by kernel_rfl
theorem quL(x0:R)(x1:R)(x2:Int):q7L [.r x0,.r x1,.i x2]=(let r0:TR:=(qE [(.r x0),(.r x1),(.i x2)])
 .br (okR r0) (.br (ine (gI r0 0) 0) (.leaf (0,[(.r []),(.i (gI r0 0))])) (let r1:TR:=(wM [(.r x0),(.r x1),(.i x2)])
 .br (okR r1) (.leaf (0,[(.r (gR r1 0)),(.i 0)])) .fail)) .fail):=by kernel_rfl
theorem qyk(x0:R)(x1:R)(x2:Int):vD [.r x0,.r x1,.i x2]=(.leaf (0,[(.r x0),(.r x1),(.i x2)])):=by kernel_rfl
theorem ke(y0:R)(y1:R)(y2:Int)(y3:Int):z8 [.r y0,.r y1,.i y2,.i y3]=(.br (ilt y3 y2) (.br (inb y3 (qh y0)) (.br (inb y3 (qh y1)) (.br (not (qxm (qxm (seq (cS y0 y3 0) (cS y1 y3 0)) (qxm (seq (cS y0 y3 1) (cS y1 y3 1)) true)) (qxm (seq (cS y0 y3 2) (cS y1 y3 2)) true))) (.leaf (2,[(.b false)])) (.leaf (0,[(.r y0),(.r y1),(.i y2),(.i (qk .i64 y3 1))]))) .fail) .fail) (.leaf (1,[]))):=by kernel_rfl
theorem q7I(x0:R)(x1:R):zn [.r x0,.r x1]=(.br (ine (qh x0) (qh x1)) (.leaf (0,[(.b false)])) (let r0:TR:=(qf z8 [(.r x0),(.r x1),(.i (qh x0)),(.i 0)])
 .br (okR r0) (.br (jIs r0 0) (.leaf (0,[(.b true)])) (.leaf (0,[(.b (gB r0 0))]))) .fail)):=by kernel_rfl
theorem qlp(x0:R)(x1:R)(x2:Int):q07 [.r x0,.r x1,.i x2]=(let r0:TR:=(uX [(.r x0),(.r x1)])
 .br (okR r0) (.br (not (gB r0 0)) (let r1:TR:=(qo [])
 .br (okR r1) (.leaf (0,[(.b (gB r1 0))])) .fail) (let r1:TR:=(zg [(.r x0),(.r x1),(.i x2)])
 .br (okR r1) (let r2:TR:=(vD [(.r x0),(.r x1),(.i x2)])
 .br (okR r2) (let r3:TR:=(q7L [(.r (gR r2 0)),(.r (gR r2 1)),(.i (gI r2 2))])
 .br (okR r3) (let r4:TR:=(uh [(.r x0),(.r x1),(.i x2)])
 .br (okR r4) (.br (okR r2) (let r5:TR:=(qE [(.r (gR r2 0)),(.r (gR r2 1)),(.i (gI r2 2))])
 .br (okR r5) (.br (ieq (gI r4 0) (gI r5 0)) (let r6:TR:=(zn [(.r (gR r1 0)),(.r (gR r3 0))])
 .br (okR r6) (.br (gB r6 0) (.br (ieq (gI r1 1) (gI r3 1)) (let r7:TR:=(qo [])
 .br (okR r7) (.leaf (0,[(.b (gB r7 0))])) .fail) (.leaf (0,[(.b false)]))) (.leaf (0,[(.b false)]))) .fail) (.leaf (0,[(.b false)]))) .fail) .fail) .fail) .fail) .fail) .fail)) .fail):=by kernel_rfl
theorem quv(x0:List UInt8):q45 [.s x0]=(let r0:TR:=(wB [(.s x0)])
 .br (okR r0) (.br (ile (qt (gS r0 0)) 30) (.leaf (0,[(.b (ile (qt (gS r0 1)) 30))])) (.leaf (0,[(.b false)]))) .fail):=by kernel_rfl
theorem qyq(x0:List UInt8)(x1:List UInt8)(x2:List UInt8)(x3:List UInt8)(x4:List UInt8):q6n [.s x0,.s x1,.s x2,.s x3,.s x4]=(let r0:TR:=(qcc [(.s x0),(.s x1),(.s x3),(.s x4)])
 .br (okR r0) (let r1:TR:=(q1E [(.s (gS r0 0)),(.s x2)])
 .br (okR r1) (.leaf (0,[(.b (ile (gI r1 0) 0))])) .fail) .fail):=by kernel_rfl
theorem qhE(y0:R)(y1:Int)(y2:List UInt8)(y3:List UInt8):uR [.r y0,.i y1,.s y2,.s y3]=(.br (ilt y1 (qh y0)) (.br (inb y1 (qh y0)) (let r0:TR:=(q6n [(.s (cS y0 y1 0)),(.s (cS y0 y1 1)),(.s (cS y0 y1 2)),(.s y2),(.s y3)])
 .br (okR r0) (.br (not (gB r0 0)) (.leaf (2,[(.b false),(.i 0)])) (.leaf (0,[(.r y0),(.i (qk .i64 y1 1)),(.s y2),(.s y3)]))) .fail) .fail) (.leaf (1,[]))):=by kernel_rfl
theorem qgh(x0:R)(x1:R)(x2:Int)(x3:List UInt8)(x4:List UInt8):q3i [.r x0,.r x1,.i x2,.s x3,.s x4]=(let r0:TR:=(qE [(.r x0),(.r x1),(.i x2)])
 .br (okR r0) (.br (ine (gI r0 0) 0) (.leaf (0,[(.b false),(.i (gI r0 0))])) (let r1:TR:=(vA [(.s x3)])
 .br (okR r1) (.br (ine (gI r1 0) 0) (.leaf (0,[(.b false),(.i (gI r1 0))])) (let r2:TR:=(vA [(.s x4)])
 .br (okR r2) (.br (ine (gI r2 0) 0) (.leaf (0,[(.b false),(.i (gI r2 0))])) (let r3:TR:=(wM [(.r x0),(.r x1),(.i x2)])
 .br (okR r3) (let r4:TR:=(qf uR [(.r (gR r3 0)),(.i 0),(.s x3),(.s x4)])
 .br (okR r4) (.br (jIs r4 0) (.leaf (0,[(.b true),(.i 0)])) (.leaf (0,[(.b (gB r4 0)),(.i (gI r4 1))]))) .fail) .fail)) .fail)) .fail)) .fail):=by kernel_rfl
theorem qna(x0:R)(x1:R)(x2:Int)(x3:List UInt8)(x4:List UInt8):q17 [.r x0,.r x1,.i x2,.s x3,.s x4]=(let r0:TR:=(uX [(.r x0),(.r x1)])
 .br (okR r0) (.br (not (gB r0 0)) (let r1:TR:=(qo [])
 .br (okR r1) (.leaf (0,[(.b (gB r1 0))])) .fail) (let r1:TR:=(q45 [(.s x3)])
 .br (okR r1) (.br (not (gB r1 0)) (let r2:TR:=(qo [])
 .br (okR r2) (.leaf (0,[(.b (gB r2 0))])) .fail) (let r2:TR:=(q45 [(.s x4)])
 .br (okR r2) (.br (not (gB r2 0)) (let r3:TR:=(qo [])
 .br (okR r3) (.leaf (0,[(.b (gB r3 0))])) .fail) (let r3:TR:=(uw [(.r x0),(.r x1),(.i x2),(.s x3),(.s x4)])
 .br (okR r3) (let r4:TR:=(vD [(.r x0),(.r x1),(.i x2)])
 .br (okR r4) (let r5:TR:=(q3i [(.r (gR r4 0)),(.r (gR r4 1)),(.i (gI r4 2)),(.s x3),(.s x4)])
 .br (okR r5) (.br (beq (gB r3 0) (gB r5 0)) (.br (ieq (gI r3 1) (gI r5 1)) (let r6:TR:=(qo [])
 .br (okR r6) (.leaf (0,[(.b (gB r6 0))])) .fail) (.leaf (0,[(.b false)]))) (.leaf (0,[(.b false)]))) .fail) .fail) .fail)) .fail)) .fail)) .fail):=by kernel_rfl
theorem qza(x0:R)(x1:R)(x2:Int):q1I [.r x0,.r x1,.i x2]=(let r0:TR:=(uX [(.r x0),(.r x1)])
 .br (okR r0) (.br (gB r0 0) (.br (ile (qh x0) 4) (.br (ile (qh x1) 4) (.leaf (0,[(.b true)])) (let r1:TR:=(qE [(.r x0),(.r x1),(.i x2)])
 .br (okR r1) (.leaf (0,[(.b (ine (gI r1 0) 0))])) .fail)) (let r1:TR:=(qE [(.r x0),(.r x1),(.i x2)])
 .br (okR r1) (.leaf (0,[(.b (ine (gI r1 0) 0))])) .fail)) (.leaf (0,[(.b false)]))) .fail):=by kernel_rfl
theorem qoG(x0:R)(x1:R)(x2:Int):q2e [.r x0,.r x1,.i x2]=(let r0:TR:=(qE [(.r x0),(.r x1),(.i x2)])
 .br (okR r0) (.br (ine (gI r0 0) 0) (.leaf (0,[(.b false),(.i 0),(.i 0),(.i 0),(.i (gI r0 0))])) (let r1:TR:=(wM [(.r x0),(.r x1),(.i x2)])
 .br (okR r1) (let r2:TR:=(zF [(.r (gR r1 0))])
 .br (okR r2) (.leaf (0,[(.b (gB r2 3)),(.i (gI r2 0)),(.i (gI r2 1)),(.i (gI r2 2)),(.i 0)])) .fail) .fail)) .fail):=by kernel_rfl
theorem qi6(x0:R)(x1:R)(x2:Int):jT [.r x0,.r x1,.i x2]=(let r0:TR:=(qE [(.r x0),(.r x1),(.i x2)])
 .br (okR r0) (.br (ine (gI r0 0) 0) (.leaf (0,[(.r []),(.i (gI r0 0))])) (let r1:TR:=(wM [(.r x0),(.r x1),(.i x2)])
 .br (okR r1) (let r2:TR:=(q7c [(.r (gR r1 0))])
 .br (okR r2) (.leaf (0,[(.r (gR r2 0)),(.i 0)])) .fail) .fail)) .fail):=by kernel_rfl
theorem qlx(x0:R)(x1:R)(x2:Int):kP [.r x0,.r x1,.i x2]=(let r0:TR:=(vD [(.r x0),(.r x1),(.i x2)])
 .br (okR r0) (let r1:TR:=(q1I [(.r (gR r0 0)),(.r (gR r0 1)),(.i (gI r0 2))])
 .br (okR r1) (.br (not (gB r1 0)) (let r2:TR:=(qo [])
 .br (okR r2) (.leaf (0,[(.b (gB r2 0))])) .fail) (let r2:TR:=(qw [(.r x0),(.r x1),(.i x2)])
 .br (okR r2) (.br (okR r0) (let r3:TR:=(q2e [(.r (gR r0 0)),(.r (gR r0 1)),(.i (gI r0 2))])
 .br (okR r3) (let r4:TR:=(wi [(.r x0),(.r x1),(.i x2)])
 .br (okR r4) (.br (okR r0) (let r5:TR:=(jT [(.r (gR r0 0)),(.r (gR r0 1)),(.i (gI r0 2))])
 .br (okR r5) (.br (beq (gB r2 0) (gB r3 0)) (.br (qxm (ieq (gI r2 1) (gI r3 1)) (qxm (ieq (gI r2 2) (gI r3 2)) (qxm (ieq (gI r2 3) (gI r3 3)) true))) (.br (ieq (gI r2 4) (gI r3 4)) (let r6:TR:=(zW [(.r (gR r4 0)),(.r (gR r5 0))])
 .br (okR r6) (.br (gB r6 0) (.br (ieq (gI r4 1) (gI r5 1)) (let r7:TR:=(qo [])
 .br (okR r7) (.leaf (0,[(.b (gB r7 0))])) .fail) (.leaf (0,[(.b false)]))) (.leaf (0,[(.b false)]))) .fail) (.leaf (0,[(.b false)]))) (.leaf (0,[(.b false)]))) (.leaf (0,[(.b false)]))) .fail) .fail) .fail) .fail) .fail) .fail)) .fail) .fail):=by kernel_rfl
theorem qvX(x0:R)(x1:R)(x2:Int)(x3:Int):qdu [.r x0,.r x1,.i x2,.i x3]=(.leaf (0,[(.r x0),(.r x1),(.i x3)])):=by kernel_rfl
theorem qp3(x0:R)(x1:R)(x2:Int)(x3:Int):yR [.r x0,.r x1,.i x2,.i x3]=(let r0:TR:=(qdu [(.r x0),(.r x1),(.i x2),(.i x3)])
 .br (okR r0) (let r1:TR:=(wM [(.r (gR r0 0)),(.r (gR r0 1)),(.i (gI r0 2))])
 .br (okR r1) (let r2:TR:=(zF [(.r (gR r1 0))])
 .br (okR r2) (.leaf (0,[(.b (gB r2 3))])) .fail) .fail) .fail):=by kernel_rfl
theorem qor(y0:Int)(y1:Int)(y2:R)(y3:R)(y4:Int):uM [.i y0,.i y1,.r y2,.r y3,.i y4]=(.br (ilt 0 y1) (.br (ile (qk .i64 y0 y1) 100000) (let r0:TR:=(yR [(.r y2),(.r y3),(.i y4),(.i (qk .i64 y0 y1))])
 .br (okR r0) (.br (not (gB r0 0)) (.leaf (0,[(.i (qk .i64 y0 y1)),(.i y1),(.r y2),(.r y3),(.i y4)])) (.leaf (0,[(.i y0),(.i (yi .i64 y1 2)),(.r y2),(.r y3),(.i y4)]))) .fail) (.leaf (0,[(.i y0),(.i (yi .i64 y1 2)),(.r y2),(.r y3),(.i y4)]))) (.leaf (1,[(.i y0)]))):=by kernel_rfl
theorem qrQ(x0:R)(x1:R)(x2:Int):ut [.r x0,.r x1,.i x2]=(let r0:TR:=(qE [(.r x0),(.r x1),(.i x2)])
 .br (okR r0) (.br (ine (gI r0 0) 0) (.leaf (0,[(.i 0),(.i (gI r0 0))])) (let r1:TR:=(yR [(.r x0),(.r x1),(.i x2),(.i 100000)])
 .br (okR r1) (.br (not (gB r1 0)) (.leaf (0,[(.i 0),(.i 6)])) (let r2:TR:=(qf uM [(.i (-1)),(.i 65536),(.r x0),(.r x1),(.i x2)])
 .br (okR r2) (.leaf (0,[(.i (qk .i64 (gI r2 0) 1)),(.i 0)])) .fail)) .fail)) .fail):=by kernel_rfl
theorem qlH(x0:R)(x1:R)(x2:Int):kW [.r x0,.r x1,.i x2]=(let r0:TR:=(vD [(.r x0),(.r x1),(.i x2)])
 .br (okR r0) (let r1:TR:=(q1I [(.r (gR r0 0)),(.r (gR r0 1)),(.i (gI r0 2))])
 .br (okR r1) (.br (not (gB r1 0)) (let r2:TR:=(qo [])
 .br (okR r2) (.leaf (0,[(.b (gB r2 0))])) .fail) (let r2:TR:=(zQ [(.r x0),(.r x1),(.i x2)])
 .br (okR r2) (.br (okR r0) (let r3:TR:=(ut [(.r (gR r0 0)),(.r (gR r0 1)),(.i (gI r0 2))])
 .br (okR r3) (.br (ieq (gI r2 0) (gI r3 0)) (.br (ieq (gI r2 1) (gI r3 1)) (let r4:TR:=(qo [])
 .br (okR r4) (.leaf (0,[(.b (gB r4 0))])) .fail) (.leaf (0,[(.b false)]))) (.leaf (0,[(.b false)]))) .fail) .fail) .fail)) .fail) .fail):=by kernel_rfl
theorem qtJ(x0:R)(x1:R)(x2:Int):vo [.r x0,.r x1,.i x2]=(let r0:TR:=(vD [(.r x0),(.r x1),(.i x2)])
 .br (okR r0) (let r1:TR:=(q1I [(.r (gR r0 0)),(.r (gR r0 1)),(.i (gI r0 2))])
 .br (okR r1) (.br (gB r1 0) (.br (okR r0) (let r2:TR:=(qE [(.r (gR r0 0)),(.r (gR r0 1)),(.i (gI r0 2))])
 .br (okR r2) (.leaf (0,[(.b (ieq (gI r2 0) 0))])) .fail) .fail) (.leaf (0,[(.b false)]))) .fail) .fail):=by kernel_rfl
theorem qkn(x0:R)(x1:R)(x2:Int):uY [.r x0,.r x1,.i x2]=(let r0:TR:=(vo [(.r x0),(.r x1),(.i x2)])
 .br (okR r0) (.br (not (gB r0 0)) (let r1:TR:=(qo [])
 .br (okR r1) (.leaf (0,[(.b (gB r1 0))])) .fail) (let r1:TR:=(zQ [(.r x0),(.r x1),(.i x2)])
 .br (okR r1) (let r2:TR:=(qw [(.r x0),(.r x1),(.i (-1))])
 .br (okR r2) (.br (ieq (gI r1 1) 6) (let r3:TR:=(qw [(.r x0),(.r x1),(.i 100000)])
 .br (okR r3) (.br (ieq (gI r3 4) 0) (.br (not (gB r3 0)) (let r4:TR:=(qo [])
 .br (okR r4) (.leaf (0,[(.b (gB r4 0))])) .fail) (.leaf (0,[(.b false)]))) (.leaf (0,[(.b false)]))) .fail) (.br (ine (gI r1 1) 0) (.leaf (0,[(.b false)])) (.br (ine (gI r2 4) 0) (.leaf (0,[(.b false)])) (.br (not (gB r2 0)) (.leaf (0,[(.b false)])) (.br (ilt (gI r1 0) 0) (.leaf (0,[(.b false)])) (.br (ilt 100000 (gI r1 0)) (.leaf (0,[(.b false)])) (let r3:TR:=(qw [(.r x0),(.r x1),(.i (gI r1 0))])
 .br (okR r3) (.br (ine (gI r3 4) 0) (.leaf (0,[(.b false)])) (.br (not (gB r3 0)) (.leaf (0,[(.b false)])) (.br (ieq (gI r1 0) 0) (let r4:TR:=(qo [])
 .br (okR r4) (.leaf (0,[(.b (gB r4 0))])) .fail) (let r4:TR:=(qw [(.r x0),(.r x1),(.i (qA .i64 (gI r1 0) 1))])
 .br (okR r4) (.br (ieq (gI r4 4) 0) (.br (not (gB r4 0)) (let r5:TR:=(qo [])
 .br (okR r5) (.leaf (0,[(.b (gB r5 0))])) .fail) (.leaf (0,[(.b false)]))) (.leaf (0,[(.b false)]))) .fail)))) .fail))))))) .fail) .fail)) .fail):=by kernel_rfl
theorem qt5(x0:R)(x1:Int)(x2:Int)(x3:Int):q5r [.r x0,.i x1,.i x2,.i x3]=(let r0:TR:=(zx [(.r x0)])
 .br (okR r0) (.br (ine (gI r0 0) 0) (.leaf (0,[(.b false),(.i (gI r0 0))])) (.br (ilt x1 0) (.leaf (0,[(.b false),(.i 2)])) (.br (ile (qh x0) x1) (.leaf (0,[(.b false),(.i 2)])) (.br (ilt x2 0) (.leaf (0,[(.b false),(.i 2)])) (.br (ile (qh x0) x2) (.leaf (0,[(.b false),(.i 2)])) (.br (ilt x2 x1) (.leaf (0,[(.b false),(.i 9)])) (.br (ilt x3 (-1)) (.leaf (0,[(.b false),(.i 1)])) (.br (ilt 1 x3) (.leaf (0,[(.b false),(.i 1)])) (let r1:TR:=(qS [(.r x0),(.i x1),(.i x2),(.i x3),(.i 0)])
 .br (okR r1) (.leaf (0,[(.b (gB r1 0)),(.i (gI r1 1))])) .fail))))))))) .fail):=by kernel_rfl
theorem qrp(x0:R)(x1:R)(x2:Int)(x3:Int)(x4:Int)(x5:Int):q55 [.r x0,.r x1,.i x2,.i x3,.i x4,.i x5]=(let r0:TR:=(zg [(.r x0),(.r x1),(.i x2)])
 .br (okR r0) (.br (ine (gI r0 1) 0) (.leaf (0,[(.b false),(.i (gI r0 1))])) (let r1:TR:=(q5r [(.r (gR r0 0)),(.i x3),(.i x4),(.i x5)])
 .br (okR r1) (.leaf (0,[(.b (gB r1 0)),(.i (gI r1 1))])) .fail)) .fail):=by kernel_rfl
theorem qfL(y0:R)(y1:Int)(y2:Int)(y3:Int)(y4:Int)(y5:Int)(y6:R):q2k [.r y0,.i y1,.i y2,.i y3,.i y4,.i y5,.r y6]=(.br (ilt y2 y1) (.br (inb y2 (qh y6)) (.br (ilt (cI y6 y2 0) 0) (.leaf (2,[(.b false),(.i 2)])) (.br (ile (qh y0) (cI y6 y2 0)) (.leaf (2,[(.b false),(.i 2)])) (.leaf (0,[(.r y0),(.i y1),(.i (qk .i64 y2 1)),(.i y3),(.i y4),(.i y5),(.r y6)])))) .fail) (.leaf (1,[(.r y0),(.i y3),(.i y4),(.i y5)]))):=by kernel_rfl
theorem qtq(x0:R)(x1:Int)(x2:Int)(x3:Int):q56 [.r x0,.i x1,.i x2,.i x3]=(let r0:TR:=(q3u [(.r x0)])
 .br (okR r0) (.br (ine (gI r0 0) 0) (.leaf (0,[(.b false),(.i (gI r0 0))])) (let r1:TR:=(qf q2k [(.r x0),(.i (qh [[(.i x1)],[(.i x2)]])),(.i 0),(.i x1),(.i x2),(.i x3),(.r [[(.i x1)],[(.i x2)]])])
 .br (okR r1) (.br (jIs r1 0) (.br (ilt (gI r1 2) (gI r1 1)) (.leaf (0,[(.b false),(.i 9)])) (.br (ilt (gI r1 3) (-1)) (.leaf (0,[(.b false),(.i 1)])) (.br (ilt 1 (gI r1 3)) (.leaf (0,[(.b false),(.i 1)])) (let r2:TR:=(zN [(.r (gR r1 0)),(.i (gI r1 1)),(.i (gI r1 2)),(.i (gI r1 3))])
 .br (okR r2) (.leaf (0,[(.b (gB r2 0)),(.i 0)])) .fail)))) (.leaf (0,[(.b (gB r1 0)),(.i (gI r1 1))]))) .fail)) .fail):=by kernel_rfl
theorem qsM(x0:R)(x1:R)(x2:Int)(x3:Int)(x4:Int)(x5:Int):q5a [.r x0,.r x1,.i x2,.i x3,.i x4,.i x5]=(let r0:TR:=(qE [(.r x0),(.r x1),(.i x2)])
 .br (okR r0) (.br (ine (gI r0 0) 0) (.leaf (0,[(.b false),(.i (gI r0 0))])) (let r1:TR:=(wM [(.r x0),(.r x1),(.i x2)])
 .br (okR r1) (let r2:TR:=(q56 [(.r (gR r1 0)),(.i x3),(.i x4),(.i x5)])
 .br (okR r2) (.leaf (0,[(.b (gB r2 0)),(.i (gI r2 1))])) .fail) .fail)) .fail):=by kernel_rfl
theorem qi5(x0:R)(x1:R)(x2:Int)(x3:Int)(x4:Int)(x5:Int):jX [.r x0,.r x1,.i x2,.i x3,.i x4,.i x5]=(let r0:TR:=(uX [(.r x0),(.r x1)])
 .br (okR r0) (.br (not (gB r0 0)) (let r1:TR:=(qo [])
 .br (okR r1) (.leaf (0,[(.b (gB r1 0))])) .fail) (let r1:TR:=(q55 [(.r x0),(.r x1),(.i x2),(.i x3),(.i x4),(.i x5)])
 .br (okR r1) (let r2:TR:=(vD [(.r x0),(.r x1),(.i x2)])
 .br (okR r2) (let r3:TR:=(q5a [(.r (gR r2 0)),(.r (gR r2 1)),(.i (gI r2 2)),(.i x3),(.i x4),(.i x5)])
 .br (okR r3) (.br (beq (gB r1 0) (gB r3 0)) (.br (ieq (gI r1 1) (gI r3 1)) (let r4:TR:=(qo [])
 .br (okR r4) (.leaf (0,[(.b (gB r4 0))])) .fail) (.leaf (0,[(.b false)]))) (.leaf (0,[(.b false)]))) .fail) .fail) .fail)) .fail):=by kernel_rfl
theorem qyE(x0:Int)(x1:Int)(x2:Int)(x3:Int)(x4:Int)(x5:Int)(x6:Bool)(x7:Int)(x8:Int)(x9:Int):qgD [.i x0,.i x1,.i x2,.i x3,.i x4,.i x5,.b x6,.i x7,.i x8,.i x9]=(.leaf (0,[(.i (qA .i64 x7 x0)),(.i (qA .i64 x8 x1))])):=by kernel_rfl
theorem qxh(x0:Int)(x1:Int)(x2:Int)(x3:Int)(x4:Int)(x5:Int)(x6:Bool)(x7:Int)(x8:Int)(x9:Int):q6r [.i x0,.i x1,.i x2,.i x3,.i x4,.i x5,.b x6,.i x7,.i x8,.i x9]=(let r0:TR:=(qgD [(.i x0),(.i x1),(.i x2),(.i x3),(.i x4),(.i x5),(.b x6),(.i x7),(.i x8),(.i x9)])
 .br (okR r0) (let r1:TR:=(q8L [(.i x0),(.i x1),(.i x2),(.i x3),(.i x4),(.i x5),(.b x6)])
 .br (okR r1) (let r2:TR:=(zB [(.i (gI r1 0)),(.i (gI r1 1)),(.i (gI r1 2)),(.i (gI r1 3)),(.i (gI r1 4)),(.i (gI r1 5)),(.b (gB r1 6)),(.i (gI r1 7)),(.i x9)])
 .br (okR r2) (let r3:TR:=(q0v [(.i x0),(.i x1),(.i x2),(.i x3),(.i x4),(.i x5),(.b x6),(.i x9)])
 .br (okR r3) (.br (gB r3 0) (.leaf (0,[(.b (ile (ux .i64 4 (qk .i64 (ux .i64 (gI r0 0) (gI r0 0)) (ux .i64 (gI r0 1) (gI r0 1)))) (ux .i64 (qk .i64 x4 (gI r2 0)) (qk .i64 x4 (gI r2 0)))))])) (.leaf (0,[(.b false)]))) .fail) .fail) .fail) .fail):=by kernel_rfl
theorem qch(y0:R)(y1:R)(y2:Int)(y3:Int)(y4:R):kU [.r y0,.r y1,.i y2,.i y3,.r y4]=(.br (ilt y3 y2) (.br (inb y3 (qh y1)) (.br (inb y3 (qh y0)) (let r0:TR:=(q6r [(.i (cI y1 y3 0)),(.i (cI y1 y3 1)),(.i (cI y1 y3 2)),(.i (cI y1 y3 3)),(.i (cI y1 y3 4)),(.i (cI y1 y3 5)),(.b (cB y1 y3 6)),(.i (cI y0 y3 0)),(.i (cI y0 y3 1)),(.i (cI y0 y3 2))])
 .br (okR r0) (.br (not (gB r0 0)) (.br (ile ((qh y4)+(qh [[(.i y3)]])) 17592186044416) (.leaf (0,[(.r y0),(.r y1),(.i y2),(.i (qk .i64 y3 1)),(.r (qdX y4 [[(.i y3)]]))])) .fail) (.leaf (0,[(.r y0),(.r y1),(.i y2),(.i (qk .i64 y3 1)),(.r y4)]))) .fail) .fail) .fail) (.leaf (1,[(.r y4)]))):=by kernel_rfl
theorem qpl(x0:R)(x1:R):q2a [.r x0,.r x1]=(let r0:TR:=(zY [(.r x0),(.r x1)])
 .br (okR r0) (.br (ine (gI r0 0) 0) (.leaf (0,[(.r []),(.i (gI r0 0))])) (let r1:TR:=(qf kU [(.r x1),(.r x0),(.i (qh x0)),(.i 0),(.r [])])
 .br (okR r1) (.leaf (0,[(.r (gR r1 0)),(.i 0)])) .fail)) .fail):=by kernel_rfl
theorem q4S(x0:R):qJ [.r x0]=(.br (ilt 0 (qh x0)) (.br (ile ((qh [])+(qh x0)) 2513169434916) (.leaf (0,[(.r (qdX [] x0))])) .fail) .fail):=by kernel_rfl
theorem qlr(x0:R)(x1:R)(x2:Int)(x3:Int):q03 [.r x0,.r x1,.i x2,.i x3]=(let r0:TR:=(vo [(.r x0),(.r x1),(.i x2)])
 .br (okR r0) (.br (not (gB r0 0)) (let r1:TR:=(qo [])
 .br (okR r1) (.leaf (0,[(.b (gB r1 0))])) .fail) (let r1:TR:=(qw [(.r x0),(.r x1),(.i 0)])
 .br (okR r1) (let r2:TR:=(q2a [(.r x0),(.r x1)])
 .br (okR r2) (.br (ine (qk .i64 (gI r1 4) (gI r2 1)) 0) (.leaf (0,[(.b false)])) (.br (not (beq (gB r1 0) (ieq (qh (gR r2 0)) 0))) (.leaf (0,[(.b false)])) (let r3:TR:=(qw [(.r x0),(.r x1),(.i x2)])
 .br (okR r3) (.br (ile 0 x2) (let r4:TR:=(qJ [(.r x0)])
 .br (okR r4) (.br (inb 0 (qh (gR r4 0))) (.br (inb 0 (qh (gR r4 0))) (.br (ine (gI r3 4) 0) (.leaf (0,[(.b false)])) (.br (gB r1 0) (.br (not (gB r3 0)) (.leaf (0,[(.b false)])) (let r5:TR:=(vo [(.r (q6D (gR r4 0) 0 4 [(.i (qk .i64 (cI (gR r4 0) 0 4) (we .i64 x3)))])),(.r x1),(.i (qk .i64 x2 (we .i64 x3)))])
 .br (okR r5) (.br (not (gB r5 0)) (let r6:TR:=(qo [])
 .br (okR r6) (.leaf (0,[(.b (gB r6 0))])) .fail) (let r6:TR:=(qw [(.r (q6D (gR r4 0) 0 4 [(.i (qk .i64 (cI (gR r4 0) 0 4) (we .i64 x3)))])),(.r x1),(.i (qk .i64 x2 (we .i64 x3)))])
 .br (okR r6) (.br (ieq (gI r6 4) 0) (.br (not (gB r3 0)) (let r7:TR:=(qo [])
 .br (okR r7) (.leaf (0,[(.b (gB r7 0))])) .fail) (.br (gB r6 0) (let r7:TR:=(qo [])
 .br (okR r7) (.leaf (0,[(.b (gB r7 0))])) .fail) (.leaf (0,[(.b false)])))) (.leaf (0,[(.b false)]))) .fail)) .fail)) (let r5:TR:=(vo [(.r (q6D (gR r4 0) 0 4 [(.i (qk .i64 (cI (gR r4 0) 0 4) (we .i64 x3)))])),(.r x1),(.i (qk .i64 x2 (we .i64 x3)))])
 .br (okR r5) (.br (not (gB r5 0)) (let r6:TR:=(qo [])
 .br (okR r6) (.leaf (0,[(.b (gB r6 0))])) .fail) (let r6:TR:=(qw [(.r (q6D (gR r4 0) 0 4 [(.i (qk .i64 (cI (gR r4 0) 0 4) (we .i64 x3)))])),(.r x1),(.i (qk .i64 x2 (we .i64 x3)))])
 .br (okR r6) (.br (ieq (gI r6 4) 0) (.br (not (gB r3 0)) (let r7:TR:=(qo [])
 .br (okR r7) (.leaf (0,[(.b (gB r7 0))])) .fail) (.br (gB r6 0) (let r7:TR:=(qo [])
 .br (okR r7) (.leaf (0,[(.b (gB r7 0))])) .fail) (.leaf (0,[(.b false)])))) (.leaf (0,[(.b false)]))) .fail)) .fail))) .fail) .fail) .fail) (let r4:TR:=(qJ [(.r x0)])
 .br (okR r4) (.br (inb 0 (qh (gR r4 0))) (.br (inb 0 (qh (gR r4 0))) (.br (ine (gI r3 4) 0) (.leaf (0,[(.b false)])) (.br (gB r1 0) (.br (not (gB r3 0)) (.leaf (0,[(.b false)])) (let r5:TR:=(vo [(.r (q6D (gR r4 0) 0 4 [(.i (qk .i64 (cI (gR r4 0) 0 4) (we .i64 x3)))])),(.r x1),(.i x2)])
 .br (okR r5) (.br (not (gB r5 0)) (let r6:TR:=(qo [])
 .br (okR r6) (.leaf (0,[(.b (gB r6 0))])) .fail) (let r6:TR:=(qw [(.r (q6D (gR r4 0) 0 4 [(.i (qk .i64 (cI (gR r4 0) 0 4) (we .i64 x3)))])),(.r x1),(.i x2)])
 .br (okR r6) (.br (ieq (gI r6 4) 0) (.br (not (gB r3 0)) (let r7:TR:=(qo [])
 .br (okR r7) (.leaf (0,[(.b (gB r7 0))])) .fail) (.br (gB r6 0) (let r7:TR:=(qo [])
 .br (okR r7) (.leaf (0,[(.b (gB r7 0))])) .fail) (.leaf (0,[(.b false)])))) (.leaf (0,[(.b false)]))) .fail)) .fail)) (let r5:TR:=(vo [(.r (q6D (gR r4 0) 0 4 [(.i (qk .i64 (cI (gR r4 0) 0 4) (we .i64 x3)))])),(.r x1),(.i x2)])
 .br (okR r5) (.br (not (gB r5 0)) (let r6:TR:=(qo [])
 .br (okR r6) (.leaf (0,[(.b (gB r6 0))])) .fail) (let r6:TR:=(qw [(.r (q6D (gR r4 0) 0 4 [(.i (qk .i64 (cI (gR r4 0) 0 4) (we .i64 x3)))])),(.r x1),(.i x2)])
 .br (okR r6) (.br (ieq (gI r6 4) 0) (.br (not (gB r3 0)) (let r7:TR:=(qo [])
 .br (okR r7) (.leaf (0,[(.b (gB r7 0))])) .fail) (.br (gB r6 0) (let r7:TR:=(qo [])
 .br (okR r7) (.leaf (0,[(.b (gB r7 0))])) .fail) (.leaf (0,[(.b false)])))) (.leaf (0,[(.b false)]))) .fail)) .fail))) .fail) .fail) .fail)) .fail))) .fail) .fail)) .fail):=by kernel_rfl
end Go.Eng

namespace Go.Eng
mutual
def qkl{H:Type}:DataW H→List U
 | .lit (.bool b)=>[.b b]
 | .lit (.int _ n)=>[.i n]
 | .lit (.string s)=>[.s s]
 | .nil=>[.l []]
 | .slice es _=>[.l (qxq es)]
 | .agg ps=>qBU ps
 | _=>[.i 0]
def qBU{H:Type}:List (DataW H)→List U
 | []=>[]
 | d::l=>qkl d++qBU l
def qxq{H:Type}:List (DataW H)→List (List U)
 | []=>[]
 | d::l=>qkl d::qxq l
end
theorem qo3{H:Type}:∀l:List (DataW H),qxq l=l.map qkl
 | []=>rfl
 | d::l=>by simp[qxq,qo3 l]
inductive UFit:Sh→U→Prop
 | int (k:IntKind) (n:Int) (h0:k.min≤n) (h1:n≤k.max):UFit (.int k) (.i n)
 | bool (b:Bool):UFit .bool (.b b)
 | str (s:List UInt8) (h:s.length≤maxLen):UFit .str (.s s)
 | sl (row:List Sh) (l:R) (h:l.length≤maxLen) (hl:∀r,r∈l→r.length=row.length) (hf:∀(r:List U) (j:Nat) (s:Sh) (u:U),r∈l→row[j]?=some s→r[j]?=some u→UFit s u):UFit (.sl row) (.l l)
inductive CR (W:World) (M:Nat→Prop):List Sh→List U→List Value→Prop
 | nil:CR W M [] [] []
 | cons {s:Sh} {u:U} {v:Value} {sh:List Sh} {us:List U} {vs:List Value} (h:RepU W M s u v) (f:UFit s u) (t:CR W M sh us vs):CR W M (s::sh) (u::us) (v::vs)
theorem CR.append{W:World}{M:Nat→Prop}{a a':List Sh}{b b':List U}{c c':List Value}(h:CR W M a b c)(k:CR W M a' b' c'):CR W M (a++a') (b++b') (c++c'):=by
 induction h with
 | nil=>exact k
 | cons h f t ih=>exact .cons h f ih
theorem CR.len{W:World}{M:Nat→Prop}{a:List Sh}{b:List U}{c:List Value}(h:CR W M a b c):b.length=a.length∧c.length=a.length:=by
 induction h with
 | nil=>exact⟨rfl,rfl⟩
 | cons h f t ih=>simp[ih.1,ih.2]
theorem CR.get{W:World}{M:Nat→Prop}{a:List Sh}{b:List U}{c:List Value}(h:CR W M a b c):∀(j:Nat) (s:Sh),a[j]?=some s→∃u v,b[j]?=some u∧c[j]?=some v∧RepU W M s u v∧UFit s u:=by
 induction h with
 | nil=>intro j s hj;simp at hj
 | cons h f t ih=>
  intro j s hj
  cases j with
  | zero=>simp at hj;subst hj;exact⟨_,_,rfl,rfl,h,f⟩
  | succ j=>simpa using ih j s (by simpa using hj)
def qwz:Nat→List (Nat×TypeId×Nat)→Bool
 | _,[]=>true
 | o,f::l=>Nat.beq f.1 o&&qwz (o+f.2.2) l
def qC5:List (Nat×TypeId×Nat)→Nat
 | []=>0
 | f::l=>f.2.2+qC5 l
def qoZ(x:TI):Bool:=match x.d with
 | .struct fs=>qwz 0 fs&&Nat.beq (qC5 fs) x.size
 | .array n _ es=>Nat.beq (n*es) x.size
 | .slice _ es=>Nat.blt 0 es
 | _=>true
theorem qFF{E:Env}(h:E.tt.all (fun x=>qoZ x.2)=true)(t:TypeId):qoZ (E.ty t)=true:=by
 unfold Env.ty
 cases hf:E.tt.find? fun x=>x.1==t with
 | none=>rfl
 | some x=>exact List.all_eq_true.1 h x (List.mem_of_find?_eq_some hf)
section
variable {H:Type} {enc:TypeId×Value→H} {P:Program} {W:World} {base:Nat} {sp:Nat→Bool} {held:Bool} {E:Env}
theorem qvn{M:Nat→Prop}{fuel n:Nat}{cs:List Value}(ih:∀t cs d ps sh,E.shape n t=some sh→DataW.trod enc P W base sp held fuel t cs=some (d,ps)→CR W M sh (qkl d) cs) :
  ∀(fs:List (Nat×TypeId×Nat)) (o:Nat) (xs:List (DataW H×List MemPlace)) (shs:List (List Sh)),qwz o fs=true→o+qC5 fs=cs.length→fs.mapM (fun f=>E.shape n f.2.1)=some shs →
   xs.length=fs.length→(∀(i:Nat) (f:Nat×TypeId×Nat),fs[i]?=some f→DataW.trod enc P W base sp held fuel f.2.1 ((cs.drop f.1).take f.2.2)=xs[i]?) →
   CR W M shs.flatten (qBU (xs.map (·.1))) (cs.drop o)
 | [],o,xs,shs,_,hs,hsh,hl,_=>by
  simp[qC5] at hs hsh hl
  subst hsh hl
  have:cs.drop o=[]:=List.drop_eq_nil_of_le (by omega)
  rw[this]
  exact .nil
 | f::fs,o,xs,shs,hlay,hs,hsh,hl,hx=>by
  simp only[qwz,Bool.and_eq_true] at hlay
  obtain⟨h1,h2⟩:=hlay
  have ho:f.1=o:=Nat.eq_of_beq_eq_true h1
  simp only[qC5] at hs
  rw[List.mapM_cons] at hsh
  cases hsf:E.shape n f.2.1 with
  | none=>rw[hsf] at hsh;cases hsh
  | some shf=>
   cases hrest:fs.mapM (fun f=>E.shape n f.2.1) with
   | none=>rw[hsf,hrest] at hsh;cases hsh
   | some shr=>
    rw[hsf,hrest] at hsh
    cases hsh
    cases xs with
    | nil=>simp at hl
    | cons x xs=>
     have h0:=hx 0 f rfl
     simp only[List.getElem?_cons_zero] at h0
     have c1:=ih f.2.1 _ x.1 x.2 shf hsf h0
     rw[ho] at c1
     have c2:=qvn (cs:=cs) (M:=M) (fuel:=fuel) ih fs (o+f.2.2) xs shr h2 (by omega) hrest (by simpa using hl) fun i g hg=>by
      have:=hx (i+1) g (by simpa using hg)
      simpa using this
     have hsplit:cs.drop o=(cs.drop o).take f.2.2++cs.drop (o+f.2.2):=by
      rw[←List.drop_drop,List.take_append_drop]
     rw[hsplit]
     simp only[List.flatten_cons,List.map_cons,qBU]
     exact c1.append c2
theorem qya{M:Nat→Prop}{fuel n es:Nat}{e:TypeId}{cs:List Value}{she:List Sh}(he:E.shape n e=some she)
  (ih:∀t cs d ps sh,E.shape n t=some sh→DataW.trod enc P W base sp held fuel t cs=some (d,ps)→CR W M sh (qkl d) cs) :
  ∀(m o:Nat) (xs:List (DataW H×List MemPlace)),(o+m)*es=cs.length→xs.length=m→(∀i,i<m→DataW.trod enc P W base sp held fuel e ((cs.drop ((o+i)*es)).take es)=xs[i]?) →
   CR W M (List.replicate m she).flatten (qBU (xs.map (·.1))) (cs.drop (o*es))
 | 0,o,xs,hs,hl,_=>by
  simp at hl hs;subst hl
  have:cs.drop (o*es)=[]:=List.drop_eq_nil_of_le (by omega)
  rw[this]
  exact .nil
 | m+1,o,xs,hs,hl,hx=>by
  cases xs with
  | nil=>simp at hl
  | cons x xs=>
   have h0:=hx 0 (by omega)
   simp only[List.getElem?_cons_zero,Nat.add_zero] at h0
   have c1:=ih e _ x.1 x.2 she he h0
   have c2:=qya (cs:=cs) he ih m (o+1) xs (by rw[←hs];congr 1;omega) (by simpa using hl) fun i hi=>by
    have:=hx (i+1) (by omega)
    rw[show o+(i+1)=o+1+i by omega] at this
    simpa using this
   have hsplit:cs.drop (o*es)=(cs.drop (o*es)).take es++cs.drop ((o+1)*es):=by
    rw[Nat.add_mul,Nat.one_mul,←List.drop_drop,List.take_append_drop]
   rw[hsplit]
   simp only[List.replicate_succ,List.flatten_cons,List.map_cons,qBU]
   exact c1.append c2
theorem qBv(hE:E.tok P)(hlay:E.tt.all (fun x=>qoZ x.2)=true):∀(fuel n:Nat) (t:TypeId) (cs:List Value) (d:DataW H) (ps:List MemPlace) (sh:List Sh),E.shape n t=some sh →
  DataW.trod enc P W base sp held fuel t cs=some (d,ps)→CR W (fun b=>b<W.heap.size) sh (qkl d) cs:=by
 intro fuel
 induction fuel with
 | zero=>intro n t cs d ps sh _ h;simp[DataW.trod] at h
 | succ fuel ih=>
  intro n t cs d ps sh hsh h
  cases n with
  | zero=>simp[Env.shape] at hsh
  | succ n=>
   simp only[Env.shape] at hsh
   have hl:=qFF hlay t
   unfold qoZ at hl
   cases hd:(E.ty t).d<;>rw[hd] at hsh hl<;>simp only at hsh hl<;>try (cases hsh)
   ·
    unfold DataW.trod at h
    rw[qrY hE hd] at h
    split at h<;>simp_all
    obtain⟨rfl,_⟩:=h
    exact .cons (.bool (.b _)) (.bool _) .nil
   ·
    rename_i k
    unfold DataW.trod at h
    rw[qts hE hd] at h
    split at h<;>simp_all
    obtain⟨⟨rfl,hw⟩,rfl,_⟩:=h
    simp[Lit.wf] at hw
    exact .cons (.int _ (.i _)) (.int _ _ hw.1 hw.2) .nil
   ·
    unfold DataW.trod at h
    rw[qkK hE hd] at h
    split at h<;>simp_all
    rename_i s
    obtain⟨hm,rfl,_⟩:=h
    refine .cons ?_ (.str _ (by simpa using hm)) .nil
    have:=RepU.str (w:=W) (M:=fun b=>b<W.heap.size) (.s s.data.toList)
    simpa[U.toS] using this
   ·
    rename_i e es
    obtain⟨ht,rfl⟩:=q2U hE hd
    cases he:E.shape n e with
    | none=>rw[he] at hsh;cases hsh
    | some she=>
     rw[he] at hsh
     cases hsh
     have hpos:0<P.cellsOf e:=by simpa[Nat.blt_eq] using hl
     rcases DataW.trod_slice ht h with⟨rfl,hx⟩|⟨a,len,cap,elems,rest,k,hk,rfl,hx,hb,hlc,hcm,hlen,hel,_,_⟩
     ·cases hx
      exact .cons (.slnil _ _ rfl) (.sl _ _ (by simp[maxLen]) (fun r hr=>by cases hr) (fun r j s u hr=>by cases hr)) .nil
     ·cases hx
      cases hk
      have hrow:∀(i:Nat) (hi:i<len),∃cs',W.cells? base (a.add (i*P.cellsOf e)) (P.cellsOf e)=some cs'∧CR W (fun b=>b<W.heap.size) she (qkl (elems[i]'(by omega)).1) cs':=by
       intro i hi
       have h0:=hel i hi
       rw[List.getElem?_eq_getElem (by omega)] at h0
       obtain⟨cs',g1,g2⟩:=Option.bind_eq_some_iff.1 h0
       exact⟨cs',g1,ih n e cs' _ _ she he g2⟩
      have hget:∀(r:Nat) (hr:r<len),(((elems.map (·.1)).map qkl).getD r []:List U)=qkl (elems[r]'(by omega)).1:=by
       intro r hr
       simp[List.getD_eq_getElem?_getD,hlen,hr]
      have hcell:∀(r j:Nat) (s:Sh) (hr:r<len),she[j]?=some s→∃v,W.cell? ⟨a.block,a.off+r*she.length+j,none⟩=some v∧RepU W (fun b=>b<W.heap.size) s (vk (qxq (elems.map (·.1))) r j) v∧UFit s ((qkl (elems[r]'(by omega)).1).getD j (.i 0))∧a.spot=none∧a.block<W.heap.size:=by
       intro r j s hr hj
       obtain⟨cs',g1,g2⟩:=hrow r hr
       obtain⟨_,g4,g5⟩:=World.cells?_some g1
       obtain⟨q1,q2⟩:=g2.len
       obtain⟨u,v,e1,e2,e3,e4⟩:=g2.get j s hj
       have hlen:she.length=P.cellsOf e:=by rw[←q2,g4]
       have hjl:j<P.cellsOf e:=by rw[←hlen];exact qB hj
       have hc:=(g5 j hjl).trans e2
       have h00:=g5 0 hpos
       obtain⟨cs0,z1,z2⟩:=hrow 0 (by omega)
       obtain⟨_,z4,z5⟩:=World.cells?_some z1
       have hz:=z5 0 hpos
       obtain⟨v0,hv0⟩:∃v0,cs0[0]?=some v0:=⟨cs0[0],List.getElem?_eq_getElem (by omega)⟩
       rw[hv0] at hz
       simp only[Nat.zero_mul,Addr.add,if_true] at hz
       have hspot:=World.cell?_spot hz
       refine⟨v,?_,?_,?_,hspot,World.block_lt_of_cell? _ _ hz⟩
       ·rw[←hc,Addr.add_of hspot,Addr.add_lit,hlen]
       ·have:vk (qxq (elems.map (·.1))) r j=u:=by
         rw[qo3]
         unfold vk
         rw[Int.toNat_natCast,hget r hr]
         simp[List.getD_eq_getElem?_getD,e1]
        rw[this];exact e3
       ·simp[List.getD_eq_getElem?_getD,e1];exact e4
      have hrl:(qxq (elems.map (·.1))).length=len:=by rw[qo3];simp[hlen]
      have hsh0:0<len→0<she.length:=by
       intro hl0
       obtain⟨cs',g1,g2⟩:=hrow 0 hl0
       obtain⟨_,g4,_⟩:=World.cells?_some g1
       rw[←g2.len.2,g4];exact hpos
      refine .cons ?_ (.sl _ _ (by rw[hrl];omega) ?_ ?_) .nil
      ·have hR:=qgq (w:=W) (M:=fun b=>b<W.heap.size) (row:=she) (l:=qxq (elems.map (·.1))) (v:=.slice (some a) len cap) (.inr ⟨a,cap,by rw[hrl],fun h0=>by
        rw[hrl] at h0
        obtain⟨_,_,_,_,h4,_⟩:=hcell 0 0 she[0] h0 (List.getElem?_eq_getElem (hsh0 h0))
        exact h4,by rw[hrl];exact hlc,fun r j hj hr=>by
        rw[hrl] at hr
        obtain⟨v,h1,h2,_,_,h5⟩:=hcell r j she[j] hr (List.getElem?_eq_getElem hj)
        exact⟨h5,v,h1,h2⟩⟩)
       exact hR
      ·intro r hr
       rw[qo3] at hr
       obtain⟨i,hi⟩:=List.getElem?_of_mem hr
       have hil:i<len:=by have:=qB hi;simpa[hlen] using this
       have:r=qkl (elems[i]'(by omega)).1:=by
        rw[←hget i hil,List.getD_eq_getElem?_getD,hi];rfl
       obtain⟨cs',g1,g2⟩:=hrow i hil
       rw[this];exact g2.len.1
      ·intro r j s u hr hs hu
       rw[qo3] at hr
       obtain⟨i,hi⟩:=List.getElem?_of_mem hr
       have hil:i<len:=by have:=qB hi;simpa[hlen] using this
       have:r=qkl (elems[i]'(by omega)).1:=by
        rw[←hget i hil,List.getD_eq_getElem?_getD,hi];rfl
       subst this
       obtain⟨_,_,_,h3,_⟩:=hcell i j s hil hs
       simpa[List.getD_eq_getElem?_getD,hu] using h3
   ·
    rename_i m e es
    obtain⟨ht,rfl⟩:=qdD hE hd
    cases he:E.shape n e with
    | none=>rw[he] at hsh;cases hsh
    | some she=>
     rw[he] at hsh
     cases hsh
     obtain⟨xs,m0,hf,hx,hcl,hxl,hel⟩:=DataW.trod_array ht h
     cases hf
     cases hx
     have hsz:m*P.cellsOf e=cs.length:=by
      rw[hcl]
      have h1:=Nat.eq_of_beq_eq_true hl
      obtain⟨_,i,dd,h2,_,_,h4,_⟩:=q1K hE (t:=t) (by rw[hd];rfl)
      rw[h1,h4]
      unfold Program.cellsOf
      rw[h2];rfl
     have:=qya (cs:=cs) he (fun t cs d ps sh h1 h2=>ih n t cs d ps sh h1 h2) m 0 xs (by simpa using hsz) hxl (fun i hi=>by simpa using hel i hi)
     simpa[qkl] using this
   ·
    rename_i fs
    obtain⟨fields,ht,rfl⟩:=q9o hE hd
    cases hm:(fields.toList.map fun f=>(f.offset,f.type,P.cellsOf f.type)).mapM fun f=>E.shape n f.2.1 with
    | none=>rw[hm] at hsh;cases hsh
    | some shs=>
     rw[hm] at hsh
     cases hsh
     obtain⟨xs,m0,hf,hx,hcl,hxl,hel⟩:=DataW.trod_struct ht h
     cases hf
     cases hx
     simp only[Bool.and_eq_true] at hl
     have hsz:qC5 (fields.toList.map fun f=>(f.offset,f.type,P.cellsOf f.type))=cs.length:=by
      rw[hcl]
      have h1:=Nat.eq_of_beq_eq_true hl.2
      obtain⟨_,i,dd,h2,_,_,h4,_⟩:=q1K hE (t:=t) (by rw[hd];rfl)
      rw[h1,h4]
      unfold Program.cellsOf
      rw[h2];rfl
     have:=qvn (cs:=cs) (fun t cs d ps sh h1 h2=>ih n t cs d ps sh h1 h2) _ 0 xs shs hl.1 (by simpa using hsz) hm (by simpa using hxl) (fun i f hf=>by
      rw[List.getElem?_map] at hf
      cases hfi:fields.toList[i]? with
      | none=>rw[hfi] at hf;cases hf
      | some g=>
       rw[hfi] at hf
       cases hf
       exact hel i g (by simpa using hfi))
     simpa[qkl] using this
end
end Go.Eng

namespace Go.Eng
open Go.RowKit
inductive UFits:List Sh→List U→Prop
 | nil:UFits [] []
 | cons {s:Sh} {u:U} {sh:List Sh} {us:List U} (h:UFit s u) (t:UFits sh us):UFits (s::sh) (u::us)
theorem CR.fits{W:World}{M:Nat→Prop}{a:List Sh}{b:List U}{c:List Value}(h:CR W M a b c):UFits a b:=by
 induction h with
 | nil=>exact .nil
 | cons h f t ih=>exact .cons f ih
def qb6:List Sh→List U→List AV
 | .int k::sh,u::us=>.int k u.toI::qb6 sh us
 | .bool::sh,u::us=>.bool u.toB::qb6 sh us
 | .str::sh,u::us=>.str u.toS::qb6 sh us
 | .sl row::sh,u::us=>.imm row u.toR::qb6 sh us
 | _,_=>[]
theorem qCS{X:Ctx}{sh:List Sh}{us:List U}{vs:List Value}(h:CR X.w X.M sh us vs):RepL X (qb6 sh us) vs:=by
 induction h with
 | nil=>exact .nil
 | cons h f t ih=>
  rename_i s u v sh us vs
  cases s with
  | int k=>cases h;exact .cons (.int _ _) ih
  | bool=>cases h;exact .cons (.bool _) ih
  | str=>cases h;exact .cons (.str _) ih
  | sl row=>exact .cons (.imm _ _ _ (qnp h)) ih
def qm1(agg:Bool)(sh:List Sh)(us:List U):AV:=match agg with
 | true=>.agg (qb6 sh us)
 | false=>(qb6 sh us).headD .undef
section
variable {H:Type} {enc:TypeId×Value→H} {P:Program} {W:World} {base:Nat} {sp:Nat→Bool} {held:Bool} {E:Env}
theorem qeO(hE:E.tok P)(hlay:E.tt.all (fun x=>qoZ x.2)=true){X:Ctx}(hw:X.w=W)(hM:X.M=fun b=>b<W.heap.size){r:Reach}{b0:Nat}{n:Nat}{t:TypeId}{v:Value}{d:DataW H}{ps:List MemPlace}{sh:List Sh}
  (hsh:E.shape n t=some sh) (hv:Value.okWide P W r b0 t v) (hd:DataW.Trod enc P W base sp held t v d ps):UFits sh (qkl d)∧Rep X (qm1 (E.ty t).d.isAgg sh (qkl d)) v:=by
 obtain⟨fuel,hf⟩:=hd
 have hc:=qBv hE hlay fuel n t _ d ps sh hsh hf
 refine⟨hc.fits,?_⟩
 have hr:RepL X (qb6 sh (qkl d)) v.cells.toList:=qCS (by rw[hw,hM];exact hc)
 have hone:∀(_:(E.ty t).d.isAgg=false),v.cells=#[v]→Rep X (qm1 (E.ty t).d.isAgg sh (qkl d)) v:=by
  intro ha hcell
  rw[ha]
  rw[hcell] at hr
  simp only[qm1]
  generalize qb6 sh (qkl d)=l at hr
  cases hr with
  | cons h1 h2=>simpa using h1
 unfold Value.okWide at hv
 cases n with
 | zero=>simp[Env.shape] at hsh
 | succ n=>
  simp only[Env.shape] at hsh
  cases hd:(E.ty t).d<;>rw[hd] at hsh hone<;>simp only at hsh<;>try (cases hsh)
  ·rw[qrY hE hd] at hv
   refine hone rfl ?_
   cases v<;>simp[Cell.okWide,qrY hE hd,Cell.ok] at hv<;>rfl
  ·rw[qts hE hd] at hv
   refine hone rfl ?_
   cases v<;>simp[Cell.okWide,qts hE hd,Cell.ok] at hv<;>rfl
  ·rw[qkK hE hd] at hv
   refine hone rfl ?_
   cases v<;>simp[Cell.okWide,qkK hE hd,Cell.ok] at hv<;>rfl
  ·rw[(q2U hE hd).1] at hv
   refine hone rfl ?_
   cases v<;>simp[Cell.okWide,(q2U hE hd).1,Cell.ok] at hv<;>rfl
  ·rw[(qdD hE hd).1] at hv
   obtain⟨cs,rfl,_,_⟩:=hv
   simp only[TD.isAgg,qm1]
   exact .agg _ _ (by simpa[Value.cells] using hr)
  ·obtain⟨fields,ht,_⟩:=q9o hE hd
   rw[ht] at hv
   obtain⟨cs,rfl,_,_⟩:=hv
   simp only[TD.isAgg,qm1]
   exact .agg _ _ (by simpa[Value.cells] using hr)
end
def qp8(W:World):Ctx:={ σ:=fun _=>none,h:=[],w:=W,M:=fun b=>b<W.heap.size }
def qD4(W:World):Base:={ w0:=W,imps:=[],M0:=fun b=>b<W.heap.size,fs:=[] }
theorem qJ8(W:World):HSim (qD4 W) (qp8 W):=by
 have hno:∀b n,¬(qp8 W).own b n:=by
  intro b n ⟨h,_⟩;cases h
 refine⟨fun b k h=>?_,fun b b' n h=>absurd h (hno b n),fun b n h=>absurd h (hno b n),fun n h=>h,fun n h=>h,fun n h=>.inl h,rfl,rfl,rfl,Nat.le_refl _,fun _ _ _=>rfl,fun b h=>?_,fun b h=>?_,fun b n h=>absurd h (hno b n),fun p hp=>by cases hp⟩
 ·have:([]:List Blk)[b]?=some k:=h
  simp at this
 ·exact absurd h (by simp[qD4])
 ·exact absurd h (by simp[qD4])
theorem qHS(W:World):Entry (qD4 W) (qp8 W):=⟨rfl,rfl,fun _ h=>h⟩
theorem qcT{P:Program}{gl:List (Nat×AV)}{f:FuncId}{G:q1L}(hG:qM P gl f G){W:World}(hgl:q7J gl (qp8 W)){args:List AV}{vargs:List Value}(ha:RepL (qp8 W) args vargs)
  (h:(G args []).run=some (.bool true,[])):Calls P f vargs.toArray W fun e W'=>e=.returned (.bool true)∧Below W.heap.size W W':=by
 refine(hG.2 (qD4 W) (qp8 W) args vargs _ (qJ8 W) (qHS W) hgl ha h).mono fun e W' ⟨v,X',e1,e2,e3,e4,e5,_⟩=>?_
 subst e2
 refine⟨?_,e5.os,e5.tape,e5.output,e5.size,fun k hk=>e5.frame k hk (by simp[qD4])⟩
 rw[e1]
 cases e3;rfl
theorem q8M{i:FIn}{outs:List FOut}{T:List PV→TR}{args:List AV}{ps:List PV}(ho:outs=[{ res:=.bool,h:=[] }])(hi:i.take args []=some ps)(hT:(T ps).run=some (0,[.b true])) :
  (q9 i outs T args []).run=some (.bool true,[]):=by
 subst ho
 unfold q9
 rw[hi]
 simp only[Tree.run,okR,hT,Option.isSome_some]
 simp only[qHJ,FOut.kinds,AP.kinds,BP.kindsL,List.append_nil,qqS,gB,pR,hT,List.getD_cons_zero,PV.toB,FOut.make,AP.make,BP.makeL,Tree.run]
theorem q6X{P:Program}{W:World}{E:Env}(hE:E.tok P)(hlay:E.tt.all (fun x=>qoZ x.2)=true){name:String}{g n:Nat}{t:TypeId}{d:DataW Unit}{sh:List Sh}
  (hg:P.globalNamed name=some g) (hty:(P.globals[g]?).map (·.type)=some t) (hsh:E.shape n t=some sh) {ds:List (String×DataW Unit)} (h:laidMet P ds W) (hm:(name,d)∈ds) :
  qFp (qp8 W) (g,.eptr sh [qkl d] 0 0):=by
 obtain⟨ps,hl,_⟩:=h
 have key:∀(ds:List (String×DataW Unit)) (ps:List MemPlace),DataW.LaidVars P W ds ps→(name,d)∈ds→∃cs fuel p,W.var? P name=some cs∧DataW.trod (fun _=>()) P W 0 (fun _=>true) false fuel t cs.toList=some (d,p):=by
  intro ds
  induction ds with
  | nil=>intro ps _ h;cases h
  | cons x ds ih=>
   intro ps hl hm
   obtain⟨nm,dd⟩:=x
   obtain⟨g',t',cs,fuel,p,q,h1,h2,h3,h4,h5,_⟩:=hl
   rcases List.mem_cons.1 hm with he|hm
   ·cases he
    obtain rfl:=Option.some.inj (hg.symm.trans h1)
    obtain rfl:=Option.some.inj (hty.symm.trans h2)
    exact⟨cs,fuel,p,h3,h4⟩
   ·exact ih q h5 hm
 obtain⟨cs,fuel,p,h3,h4⟩:=key ds ps hl hm
 have hc:=qBv hE hlay fuel n t _ d p sh hsh h4
 have hheap:∃T fr,W.heap[g]?=some (.cells cs T fr):=by
  unfold World.var? at h3
  rw[hg] at h3
  simp only[Option.bind_some] at h3
  split at h3
  ·rename_i cs' T fr he
   cases h3
   exact⟨T,fr,he⟩
  ·cases h3
 suffices hs:Rows (qp8 W).w (qp8 W).M sh [qkl d] ⟨g,0,none⟩ by
  refine⟨?_,?_,?_⟩
  ·have:=Rep.eptr (X:=qp8 W) sh [qkl d] 0 0 ⟨g,0,none⟩ rfl (Int.le_refl _) (by simp) hs
   simpa using this
  ·obtain⟨T,fr,he⟩:=hheap
   exact(Array.getElem?_eq_some_iff.1 he).1
  ·have:=World.var?_cell hg h3 sh.length
   show W.cell? ⟨g,sh.length*1,none⟩=none
   rw[Nat.mul_one,this,Array.getElem?_eq_none]
   rw[←Array.length_toList,hc.len.2]
   exact Nat.le_refl _
 intro r j hj hr
 have hr0:r=0:=by simpa using hr
 subst hr0
 obtain⟨u,v,e1,e2,e3,_⟩:=hc.get j sh[j] (List.getElem?_eq_getElem hj)
 have hcell:W.cell? ⟨g,j,none⟩=some v:=by
  have:=World.var?_cell hg h3 j
  rw[this];simpa using e2
 refine⟨World.block_lt_of_cell? W ⟨g,j,none⟩ hcell,v,?_,?_⟩
 ·rw[Nat.zero_mul,Nat.add_zero,Nat.zero_add];exact hcell
 have:vk [qkl d] (0:Nat) j=u:=by simp[vk,List.getD_eq_getElem?_getD,e1]
 rw[this];exact e3
theorem UFits.int{k:IntKind}{sh:List Sh}{us:List U}(h:UFits (.int k::sh) us):∃n us',us=.i n::us'∧k.min≤n∧n≤k.max∧UFits sh us':=by
 cases h with
 | cons h t=>cases h with
  | int k n h0 h1=>exact⟨n,_,rfl,h0,h1,t⟩
theorem UFits.bool{sh:List Sh}{us:List U}(h:UFits (.bool::sh) us):∃b us',us=.b b::us'∧UFits sh us':=by
 cases h with
 | cons h t=>cases h with
  | bool b=>exact⟨b,_,rfl,t⟩
theorem UFits.str{sh:List Sh}{us:List U}(h:UFits (.str::sh) us):∃s us',us=.s s::us'∧s.length≤maxLen∧UFits sh us':=by
 cases h with
 | cons h t=>cases h with
  | str s h0=>exact⟨s,_,rfl,h0,t⟩
theorem UFits.sl{row sh:List Sh}{us:List U}(h:UFits (.sl row::sh) us):∃l us',us=.l l::us'∧UFit (.sl row) (.l l)∧UFits sh us':=by
 cases h with
 | cons h t=>
  rename_i u us
  cases u with
  | l x=>exact⟨x,_,rfl,h,t⟩
  | _=>cases h
theorem UFits.none{us:List U}(h:UFits [] us):us=[]:=by cases h;rfl
end Go.Eng

namespace Go.Eng
theorem qo8{α:Type}(b:Bool)(t e:Tree α):(Tree.br b t e).run=if b=true then t.run else e.run:=by cases b<;>rfl
theorem qbi{α:Type}(a:α):(Tree.leaf a).run=some a:=rfl
theorem qFE{α:Type}:(Tree.fail:Tree α).run=none:=rfl
theorem qxE{R:TR}{x:Nat×List PV}(h:R.run=some x):okR R=true:=by simp[okR,h]
theorem qF6{R:TR}{j:Nat}{ps:List PV}(h:R.run=some (j,ps))(i:Nat):pR R i=ps.getD i (.i 0):=by simp[pR,h]
theorem qO{x y:Int}(h:-9223372036854775808≤x+y∧x+y≤9223372036854775807):qk .i64 x y=x+y:=by
 unfold qk IntKind.wrap
 simp[IntKind.signed,IntKind.bits];omega
theorem wA{x y:Int}(h:-9223372036854775808≤x-y∧x-y≤9223372036854775807):qA .i64 x y=x-y:=by
 unfold qA IntKind.wrap
 simp[IntKind.signed,IntKind.bits];omega
theorem q2L{x y:Int}(h:-9223372036854775808≤x*y∧x*y≤9223372036854775807):ux .i64 x y=x*y:=by
 unfold ux IntKind.wrap
 simp[IntKind.signed,IntKind.bits];omega
theorem qAm(x y:Int):(ieq x y=true)=(x=y):=by simp[ieq]
theorem qDA(x y:Int):(ine x y=true)=(x≠y):=by simp[ine]
theorem qw2(x y:Int):(ilt x y=true)=(x<y):=by simp[ilt]
theorem qjB(x y:Int):(ile x y=true)=(x≤y):=by simp[ile]
theorem qEH(x y:Bool):(Go.Eng.beq x y=true)=(x=y):=by simp[Go.Eng.beq]
theorem qGv{a b A B:Int}(h1:-A≤a)(h2:a≤A)(h3:-B≤b)(h4:b≤B):-(A*B)≤a*b∧a*b≤A*B:=by
 have e1:=Int.mul_nonneg (show 0≤A-a by omega) (show 0≤B-b by omega)
 have e2:=Int.mul_nonneg (show 0≤A+a by omega) (show 0≤B+b by omega)
 have e3:=Int.mul_nonneg (show 0≤A-a by omega) (show 0≤B+b by omega)
 have e4:=Int.mul_nonneg (show 0≤A+a by omega) (show 0≤B-b by omega)
 simp only[Int.sub_mul,Int.mul_sub,Int.add_mul,Int.mul_add] at e1 e2 e3 e4
 omega
theorem qAK{x:Int}(h:-9223372036854775807≤x∧x≤9223372036854775807):qA .i64 0 x=-x:=by
 rw[wA (by omega)];omega
theorem qr9{x:Int}(h:-9223372036854775808≤x∧x≤9223372036854775807):we .i64 x=x:=by
 unfold we IntKind.wrap
 simp[IntKind.signed,IntKind.bits];omega
theorem qFr(b:Bool):((!b)=true)=¬(b=true):=by cases b<;>simp
theorem qFI(x y:Bool):(qxm x y=true)=(x=true∧y=true):=by simp[qxm]
theorem qIw(i n:Int):(inb i n=true)=(0≤i∧i<n):=by simp[inb]
theorem qHm(i n:Int):(q6E i n=true)=(0≤i∧i≤n):=by simp[q6E]
theorem STD:(∀(α:Type) (b:Bool) (t e:Tree α),(Tree.br b t e).run=if b=true then t.run else e.run)∧(∀(α:Type) (a:α),(Tree.leaf a).run=some a)∧(∀(α:Type),(Tree.fail:Tree α).run=none) ∧
  (∀R:TR,okR R=R.run.isSome)∧(∀(α:Type) (a:α),(some a).isSome=true)∧(∀(R:TR) (i:Nat),gI R i=(pR R i).toI)∧(∀(R:TR) (i:Nat),gB R i=(pR R i).toB)∧(∀(R:TR) (i:Nat),gS R i=(pR R i).toS)∧(∀(R:TR) (i:Nat),gR R i=(pR R i).toR) ∧
  (∀(R:TR) (i:Nat),pR R i=R.run.elim (.i 0) fun r=>r.2.getD i (.i 0))∧(∀(α β:Type) (b:β) (f:α→β) (a:α),(some a).elim b f=f a) ∧
  (∀(a:PV) (l:List PV) (d:PV),(a::l).getD 0 d=a)∧(∀(a:PV) (l:List PV) (d:PV) (n:Nat),(a::l).getD (n+1) d=l.getD n d) ∧
  (∀n,(PV.i n).toI=n)∧(∀b,(PV.b b).toB=b)∧(∀s,(PV.s s).toS=s)∧(∀l,(PV.r l).toR=l) ∧
  (∀(α:Type) (h:Decidable True) (a b:α),@ite α True h a b=a)∧(∀(α:Type) (h:Decidable False) (a b:α),@ite α False h a b=b)∧((false=true)=False)∧((true=false)=False)∧((true=true)=True) ∧
  (∀x y,(ieq x y=true)=(x=y))∧(∀x y,(ine x y=true)=(x≠y))∧(∀x y,(ilt x y=true)=(x<y))∧(∀x y,(ile x y=true)=(x≤y))∧(∀x y,(Go.Eng.beq x y=true)=(x=y)) ∧
  (∀x y,(qxm x y=true)=(x=true∧y=true))∧(∀b:Bool,((!b)=true)=¬(b=true))∧(∀i n,(inb i n=true)=(0≤i∧i<n))∧(∀i n,(q6E i n=true)=(0≤i∧i≤n)) ∧
  (∀(p:Prop) (_:Decidable p),(decide p=true)=p)∧(∀(α:Type) (a b:α),(a≠b)=¬(a=b))∧(¬True)=False∧(¬False)=True:=
 ⟨fun _=>qo8,fun _=>qbi,fun _=>qFE,fun _=>rfl,fun _ _=>rfl,fun _ _=>rfl,fun _ _=>rfl,fun _ _=>rfl,fun _ _=>rfl,fun R i=>by unfold pR;cases R.run<;>rfl,fun _ _ _ _ _=>rfl,
  fun _ _ _=>rfl,fun _ _ _ _=>rfl,fun _=>rfl,fun _=>rfl,fun _=>rfl,fun _=>rfl,fun _ _ _ _=>by simp,fun _ _ _ _=>by simp,by simp,by simp,by simp,qAm,qDA,qw2,qjB,qEH,
  qFI,qFr,qIw,qHm,fun _ _=>by simp,fun _ _ _=>rfl,by simp,by simp⟩
theorem qu{R:TR}{j:Nat}{ps:List PV}(h:R.run=some (j,ps))(i:Nat):(jIs R i=true)=(j=i):=by simp[jIs,jR,h]
theorem run_bind{α β:Type}(t:Tree α)(f:α→Tree β):(t.bind f).run=t.run.bind fun a=>(f a).run:=by
 induction t with
 | leaf a=>rfl
 | br b t e iht ihe=>cases b<;>simp[Tree.bind,Tree.run,iht,ihe]
 | fail=>rfl
theorem qjJ{S:List PV→TR}{n:Nat}{ps qs:List PV}(h:(S ps).run=some (0,qs)):(qmS S (n+1) ps).run=(qmS S n qs).run:=by
 simp[qmS,run_bind,h]
theorem q9N{S:List PV→TR}{n j:Nat}{ps qs:List PV}(h:(S ps).run=some (j+1,qs)):(qmS S (n+1) ps).run=some (j,qs):=by
 simp[qmS,run_bind,h,Tree.run]
def yQ{α:Type}(f:Nat→Option α):Nat→Nat→Option α
 | _,0=>none
 | i,k+1=>match f i with
  | some a=>some a
  | none=>yQ f (i+1) k
theorem qvo{S:List PV→TR}(st:Nat→List PV)(f:Nat→Option (Nat×List PV))(fin:Nat×List PV)(n:Nat)
  (h1:∀i,i<n→f i=none→(S (st i)).run=some (0,st (i+1))) (h2:∀i r,i<n→f i=some r→(S (st i)).run=some (r.1+1,r.2))
  (h3:(S (st n)).run=some (fin.1+1,fin.2)):∀(k i m:Nat),i+k=n→k<m→(qmS S m (st i)).run=some ((yQ f i k).getD fin)
 | 0,i,m,hi,hm=>by
  obtain⟨m,rfl⟩:∃m',m=m'+1:=⟨m-1,by omega⟩
  have:i=n:=by omega
  subst this
  rw[q9N h3];rfl
 | k+1,i,m,hi,hm=>by
  obtain⟨m,rfl⟩:∃m',m=m'+1:=⟨m-1,by omega⟩
  cases hf:f i with
  | none=>
   rw[qjJ (h1 i (by omega) hf),qvo st f fin n h1 h2 h3 k (i+1) m (by omega) (by omega)]
   simp[yQ,hf]
  | some r=>
   rw[q9N (h2 i r (by omega) hf)]
   simp[yQ,hf]
theorem q7m{S:List PV→TR}(st:Nat→List PV)(f:Nat→Option (Nat×List PV))(fin:Nat×List PV)(n:Nat)(hn:n<9223372036854775808)
  (h1:∀i,i<n→f i=none→(S (st i)).run=some (0,st (i+1))) (h2:∀i r,i<n→f i=some r→(S (st i)).run=some (r.1+1,r.2))
  (h3:(S (st n)).run=some (fin.1+1,fin.2)):(qf S (st 0)).run=some ((yQ f 0 n).getD fin):=
 qvo st f fin n h1 h2 h3 n 0 qit (by omega) (Nat.lt_trans hn (by unfold qit;decide))
theorem jv{S:List PV→TR}(st:Nat→List PV)(fin:Nat×List PV)(n:Nat)(hn:n<9223372036854775808)
  (h1:∀i,i<n→(S (st i)).run=some (0,st (i+1))) (h3:(S (st n)).run=some (fin.1+1,fin.2)):(qf S (st 0)).run=some fin:=by
 have h:=q7m st (fun _=>none) fin n hn (fun i hi _=>h1 i hi) (fun i r _ h=>by cases h) h3
 have e:∀k i,yQ (fun _=>(none:Option (Nat×List PV))) i k=none:=by
  intro k;induction k with
  | zero=>intro i;rfl
  | succ k ih=>intro i;simp[yQ,ih]
 rw[e] at h;exact h
theorem q3L{α:Type}{f:Nat→Option α}:∀{k i:Nat},yQ f i k=none→∀j,i≤j→j<i+k→f j=none
 | 0,i,_,j,h1,h2=>by omega
 | k+1,i,h,j,h1,h2=>by
  simp only[yQ] at h
  cases hf:f i with
  | some a=>rw[hf] at h;cases h
  | none=>
   rw[hf] at h
   rcases Nat.eq_or_lt_of_le h1 with rfl|h1
   ·exact hf
   ·exact q3L h j h1 (by omega)
theorem qvA{α:Type}{f g:Nat→Option α}:∀{k i:Nat},(∀j,i≤j→j<i+k→f j=g j)→yQ f i k=yQ g i k
 | 0,i,_=>rfl
 | k+1,i,h=>by
  simp only[yQ]
  rw[h i (by omega) (by omega),qvA (fun j h1 h2=>h j (by omega) (by omega))]
theorem qgJ{α β:Type}(g:α→β){f:Nat→Option α}:∀{k i:Nat},yQ (fun j=>(f j).map g) i k=(yQ f i k).map g
 | 0,i=>rfl
 | k+1,i=>by
  simp only[yQ]
  cases f i with
  | some a=>rfl
  | none=>exact qgJ g
theorem kd{i n:Nat}(h:i<n)(hn:n<9223372036854775808):qk .i64 (i:Int) 1=((i+1:Nat):Int):=by
 rw[qO (by omega)];omega
theorem qDU{α:Type}(n:Nat):∀i,yQ (fun _=>(none:Option α)) i n=none:=by
 induction n with
 | zero=>intro i;rfl
 | succ n ih=>intro i;simp[yQ,ih]
def pick(p:Nat→Bool):Nat→R
 | 0=>[]
 | n+1=>if p n then qdX (pick p n) [[.i (n:Int)]] else pick p n
theorem qBL(p:Nat→Bool):∀n,(pick p n).length≤n
 | 0=>Nat.le_refl _
 | n+1=>by
  have:=qBL p n
  unfold pick;split
  ·simp[qdX];omega
  ·omega
def q9Y(f:Nat→Int)(i:Nat):Option Int:=if f i=0 then none else some (f i)
theorem qrR{f:Nat→Int}{n:Nat}(h:yQ (q9Y f) 0 n=none)(i:Nat)(hi:i<n):f i=0:=by
 have:=q3L h i (by omega) (by omega)
 unfold q9Y at this;split at this
 ·assumption
 ·cases this
theorem qmE{f:Nat→Int}:∀{k i:Nat} {e:Int},yQ (q9Y f) i k=some e→e≠0
 | 0,i,e,h=>by cases h
 | k+1,i,e,h=>by
  simp only[yQ] at h
  unfold q9Y at h
  by_cases h0:f i=0
  ·rw[if_pos h0] at h;exact qmE h
  ·rw[if_neg h0] at h;simp at h;omega
def qcv(e:Nat→Int)(n:Nat):Int:=(yQ (q9Y e) 0 n).getD 0
theorem qzr{e:Nat→Int}{n:Nat}(h:qcv e n=0)(i:Nat)(hi:i<n):e i=0:=by
 unfold qcv at h
 cases hs:yQ (q9Y e) 0 n with
 | none=>exact qrR hs i hi
 | some x=>rw[hs] at h;exact absurd h (qmE hs)
theorem qDd{e:Nat→Int}{n:Nat}(h:∀i,i<n→e i=0):qcv e n=0:=by
 unfold qcv
 rw[qvA (g:=fun _=>none) (fun j _ hj=>by unfold q9Y;rw[if_pos (h j (by omega))]),qDU];rfl
theorem qr1{S:List PV→TR}(st:Nat→List PV)(e:Nat→Int)(caps fin:List PV)(n:Nat)(hn:n<9223372036854775808)
  (h:∀i,i<n→(S (st i)).run=if e i=0 then some (0,st (i+1)) else some (2,.i (e i)::caps)) (h3:(S (st n)).run=some (1,fin)) :
  (qf S (st 0)).run=some (if qcv e n=0 then (0,fin) else (1,.i (qcv e n)::caps)):=by
 have key:=q7m st (fun i=>(q9Y e i).map fun x=>(1,PV.i x::caps)) (0,fin) n hn (fun i hi hf=>by
  rw[h i hi];unfold q9Y at hf;split at hf
  ·rename_i h0;rw[if_pos h0]
  ·simp at hf) (fun i r hi hf=>by
  rw[h i hi];unfold q9Y at hf;split at hf
  ·simp at hf
  ·rename_i h0;simp at hf;rw[if_neg h0,←hf]) h3
 rw[key,qgJ]
 unfold qcv
 cases hs:yQ (q9Y e) 0 n with
 | none=>simp
 | some x=>simp[qmE hs]
theorem qB8{l:R}{i:Nat}(h:i<l.length):(i:Int)<qh l:=by unfold qh;omega
theorem qDu(l:R):¬((l.length:Int)<qh l):=by unfold qh;omega
theorem kq(i:Nat):(0:Int)≤(i:Int):=by omega
theorem qFG(a:List U):qh [a]=1:=rfl
end Go.Eng

namespace Go.Eng
def dch(d:Nat):UInt8:=UInt8.ofNat (48+d)
def dv(c:UInt8):Nat:=c.toNat-48
def q6C(s:List UInt8):Prop:=∀c,c∈s→48≤c.toNat∧c.toNat≤57
def val(s:List UInt8):Nat:=s.foldl (fun a c=>10*a+dv c) 0
def tNf:Nat→Nat→List UInt8
 | 0,_=>[]
 | f+1,n=>if n<10 then [dch n] else tNf f (n/10)++[dch (n%10)]
def tN(n:Nat):List UInt8:=tNf (n+1) n
def tI(n:Int):List UInt8:=if n<0 then 45::tN n.natAbs else tN n.natAbs
theorem q3l{d:Nat}(h:d<10):(dch d).toNat=48+d:=by
 unfold dch;rw[UInt8.toNat_ofNat'];omega
theorem qq8{d:Nat}(h:d<10):dv (dch d)=d:=by unfold dv;rw[q3l h];omega
theorem qGJ{c:UInt8}(h1:48≤c.toNat)(h2:c.toNat≤57):dch (dv c)=c:=by
 apply UInt8.toNat_inj.1
 rw[q3l (by unfold dv;omega)];unfold dv;omega
theorem qnV(s:List UInt8)(c:UInt8):val (s++[c])=10*val s+dv c:=by simp[val,List.foldl_append]
theorem qtl:∀(t:List UInt8) (a:Nat),t.foldl (fun a c=>10*a+dv c) a=a*10^t.length+val t
 | [],a=>by simp[val]
 | c::t,a=>by
  have h1:=qtl t (10*a+dv c)
  have h2:=qtl t (10*0+dv c)
  have h3:val (c::t)=t.foldl (fun a c=>10*a+dv c) (10*0+dv c):=rfl
  rw[h3,h2,List.foldl_cons,h1,List.length_cons,Nat.pow_succ]
  grind
theorem qxg(s t:List UInt8):val (s++t)=val s*10^t.length+val t:=by
 have h:val (s++t)=t.foldl (fun a c=>10*a+dv c) (val s):=by simp[val,List.foldl_append]
 rw[h,qtl]
theorem q6U(c:UInt8)(t:List UInt8):val (c::t)=dv c*10^t.length+val t:=by
 have:=qxg [c] t
 simpa[val] using this
theorem qgF:val []=0:=rfl
theorem qAi(c:UInt8):val [c]=dv c:=by simp[val]
theorem qmw:q6C []:=fun c h=>by cases h
theorem q0Q{c:UInt8}{s:List UInt8}:q6C (c::s)↔(48≤c.toNat∧c.toNat≤57)∧q6C s:=by
 unfold q6C;simp
theorem q8X{s t:List UInt8}:q6C (s++t)↔q6C s∧q6C t:=by
 unfold q6C;simp only[List.mem_append]
 exact⟨fun h=>⟨fun c hc=>h c (.inl hc),fun c hc=>h c (.inr hc)⟩,fun h c hc=>hc.elim (h.1 c) (h.2 c)⟩
theorem qCc{c:UInt8}(h:48≤c.toNat∧c.toNat≤57):dv c<10:=by unfold dv;omega
theorem q84:∀{s:List UInt8},q6C s→val s<10^s.length
 | [],_=>by simp[val]
 | c::s,h=>by
  obtain⟨h1,h2⟩:=q0Q.1 h
  have ih:=q84 h2
  have hd:=qCc h1
  rw[q6U,List.length_cons,Nat.pow_succ]
  have:dv c*10^s.length≤9*10^s.length:=Nat.mul_le_mul_right _ (by omega)
  omega
theorem qw5{d:Nat}(h:d<10):q6C [dch d]:=by
 intro c hc
 simp at hc;subst hc
 rw[q3l h];omega
theorem qGE:∀(f g n:Nat),n<f→n<g→tNf f n=tNf g n
 | 0,_,n,h,_=>by omega
 | _,0,n,_,h=>by omega
 | f+1,g+1,n,h1,h2=>by
  unfold tNf
  by_cases h:n<10
  ·rw[if_pos h,if_pos h]
  ·rw[if_neg h,if_neg h,qGE f g (n/10) (by omega) (by omega)]
theorem qxU{n:Nat}(h:n<10):tN n=[dch n]:=by unfold tN tNf;rw[if_pos h]
theorem qAp{n:Nat}(h:10≤n):tN n=tN (n/10)++[dch (n%10)]:=by
 have:tN n=tNf n (n/10)++[dch (n%10)]:=by
  show tNf (n+1) n=_
  rw[tNf,if_neg (by omega)]
 rw[this,qGE n (n/10+1) (n/10) (by omega) (by omega)];rfl
theorem qww(n:Nat):q6C (tN n)∧tN n≠[]∧val (tN n)=n:=by
 induction n using Nat.strongRecOn with
 | _ n ih=>
  by_cases h:n<10
  ·rw[qxU h];exact⟨qw5 h,by simp,by rw[qAi,qq8 h]⟩
  ·rw[qAp (by omega)]
   obtain⟨h1,h2,h3⟩:=ih (n/10) (by omega)
   refine⟨q8X.2 ⟨h1,qw5 (by omega)⟩,by simp,?_⟩
   rw[qnV,h3,qq8 (by omega)];omega
theorem wg(n:Nat):q6C (tN n):=(qww n).1
theorem qsd(n:Nat):tN n≠[]:=(qww n).2.1
theorem q0V(n:Nat):val (tN n)=n:=(qww n).2.2
theorem ql4(n:Nat):0<(tN n).length:=List.length_pos_iff.2 (qsd n)
theorem q7w:∀(k n:Nat),n<10^(k+1)→(tN n).length≤k+1
 | 0,n,h=>by rw[qxU (by simpa using h)];simp
 | k+1,n,h=>by
  by_cases h10:n<10
  ·rw[qxU h10];simp
  ·rw[qAp (by omega),List.length_append]
   have:=q7w k (n/10) (by rw[Nat.pow_succ] at h;omega)
   simp;omega
theorem qxn:∀(k n:Nat),10^k≤n→k<(tN n).length
 | 0,n,_=>ql4 n
 | k+1,n,h=>by
  have hp:0<10^k:=Nat.pow_pos (by omega)
  rw[Nat.pow_succ] at h
  rw[qAp (by omega),List.length_append]
  have:=qxn k (n/10) (by omega)
  simp;omega
theorem q6K{k n:Nat}(h:(tN n).length≤k):n<10^k:=by
 have:=q84 (wg n)
 rw[q0V] at this
 exact Nat.lt_of_lt_of_le this (Nat.pow_le_pow_right (by omega) h)
def qJ5(s:List UInt8):Prop:=s.length=1∨s.getD 0 0≠48
theorem qAT{s:List UInt8}(hd:q6C s)(hn:s≠[])(h:s.getD 0 0≠48):10^(s.length-1)≤val s:=by
 cases s with
 | nil=>exact absurd rfl hn
 | cons c s=>
  obtain⟨h1,h2⟩:=q0Q.1 hd
  simp at h
  have hc:1≤dv c:=by
   unfold dv
   have:c.toNat≠48:=fun e=>h (UInt8.toNat_inj.1 (by simpa using e))
   omega
  rw[q6U,List.length_cons,Nat.add_sub_cancel]
  have:1*10^s.length≤dv c*10^s.length:=Nat.mul_le_mul_right _ hc
  omega
theorem qGQ:∀(n:Nat) {s:List UInt8},s.length=n+1→q6C s→qJ5 s→tN (val s)=s
 | 0,s,hl,hd,_=>by
  match s,hl with
  | [c],_=>
   have h1:=(q0Q.1 hd).1
   rw[qAi,qxU (qCc h1),qGJ h1.1 h1.2]
 | n+1,s,hl,hd,hz=>by
  obtain⟨i,c,rfl⟩:∃i c,s=i++[c]:=⟨s.dropLast,s.getLast (by intro h;simp[h] at hl),(List.dropLast_concat_getLast _).symm⟩
  have hil:i.length=n+1:=by simpa using hl
  obtain⟨h1,h2⟩:=q8X.1 hd
  have hc:=(q0Q.1 h2).1
  have hi:i≠[]:=by intro h;simp[h] at hil
  have hz0:i.getD 0 0≠48:=by
   rcases hz with hz|hz
   ·exact absurd (by simpa using hz) hi
   ·cases i with
    | nil=>exact absurd rfl hi
    | cons a i=>simpa using hz
  have hv:1≤val i:=Nat.le_trans (Nat.one_le_pow _ _ (by omega)) (qAT h1 hi hz0)
  have hd10:=qCc hc
  rw[qnV,qAp (n:=10*val i+dv c) (by omega),show (10*val i+dv c)/10=val i by omega,show (10*val i+dv c)%10=dv c by omega,qGJ hc.1 hc.2,qGQ n hil h1 (.inr hz0)]
theorem qtE{s:List UInt8}(hd:q6C s)(hn:s≠[])(hz:qJ5 s):s=tN (val s):=
 (qGQ (s.length-1) (by have:=List.length_pos_iff.2 hn;omega) hd hz).symm
theorem qvE{m n:Nat}(h:tN m=tN n):m=n:=by rw[←q0V m,h,q0V]
theorem qEc(n:Nat):qJ5 (tN n):=by
 induction n using Nat.strongRecOn with
 | _ n ih=>
  by_cases h:n<10
  ·rw[qxU h];exact .inl rfl
  ·rw[qAp (by omega)]
   right
   by_cases h2:n/10<10
   ·rw[qxU h2]
    intro e
    have:(dch (n/10)).toNat=48:=by
     have e':dch (n/10)=48:=by simpa using e
     rw[e'];rfl
    rw[q3l h2] at this;omega
   ·have h3:(tN (n/10)).length≠1:=by
     have:=qxn 1 (n/10) (by omega);omega
    rcases ih (n/10) (by omega) with h4|h4
    ·exact absurd h4 h3
    ·cases hq:tN (n/10) with
     | nil=>exact absurd hq (qsd _)
     | cons a i=>rw[hq] at h4;simpa using h4
theorem qHi(t:List UInt8):slt [] t=!t.isEmpty:=by cases t<;>rfl
theorem qFM(a b:UInt8)(s t:List UInt8):slt (a::s) (b::t)=(decide (a<b)||(a==b&&slt s t)):=by
 unfold slt
 simp only[Op.bytesLess]
theorem qzn:∀{s t:List UInt8},q6C s→q6C t→s.length=t.length→((slt s t=true)=(val s<val t))
 | [],[],_,_,_=>by simp[qHi,qgF]
 | a::s,b::t,h1,h2,hl=>by
  obtain⟨ha,hs⟩:=q0Q.1 h1
  obtain⟨hb,ht⟩:=q0Q.1 h2
  have hl':s.length=t.length:=by simpa using hl
  have ih:=qzn hs ht hl'
  have v1:=q84 hs
  have v2:=q84 ht
  rw[qFM,q6U,q6U,hl']
  rw[hl'] at v1
  have hab:(a<b)=(dv a<dv b):=by
   unfold dv;rw[UInt8.lt_iff_toNat_lt];simp only[eq_iff_iff];omega
  have hab2:(a=b)=(dv a=dv b):=by
   unfold dv;rw[←UInt8.toNat_inj];simp only[eq_iff_iff];omega
  simp only[Bool.or_eq_true,decide_eq_true_eq,Bool.and_eq_true,beq_iff_eq,eq_iff_iff,ih,hab,hab2]
  generalize 10^t.length=p at *
  generalize dv a=x at *
  generalize dv b=y at *
  constructor
  ·rintro (h|⟨rfl,h⟩)
   ·have:=Nat.mul_le_mul_right p (show x+1≤y by omega)
    rw[Nat.add_mul] at this;omega
   ·omega
  ·intro h
   rcases Nat.lt_trichotomy x y with h3|h3|h3
   ·exact .inl h3
   ·subst h3;exact .inr ⟨rfl,by omega⟩
   ·have:=Nat.mul_le_mul_right p (show y+1≤x by omega)
    rw[Nat.add_mul] at this;omega
theorem kT{m n:Nat}(h:m≤n):(tN m).length≤(tN n).length:=by
 rcases Nat.lt_or_ge (tN n).length (tN m).length with h1|h1
 ·have h2:=q6K (Nat.le_refl (tN n).length)
  have h3:0<(tN n).length:=ql4 n
  have:=q7w ((tN n).length-1) m (by rw[Nat.sub_add_cancel h3];omega)
  omega
 ·exact h1
theorem qzF(m n:Nat):((tN m).length<(tN n).length∨(tN m).length=(tN n).length∧slt (tN m) (tN n)=true)↔m<n:=by
 constructor
 ·rintro (h|⟨h1,h2⟩)
  ·rcases Nat.lt_or_ge m n with h3|h3
   ·exact h3
   ·have:=kT h3;omega
  ·rw[qzn (wg m) (wg n) h1,q0V,q0V] at h2;exact h2
 ·intro h
  have h1:=kT (Nat.le_of_lt h)
  rcases Nat.lt_or_ge (tN m).length (tN n).length with h3|h3
  ·exact .inl h3
  ·have h4:(tN m).length=(tN n).length:=by omega
   exact .inr ⟨h4,by rw[qzn (wg m) (wg n) h4,q0V,q0V];exact h⟩
theorem qBs(s:List UInt8):val (48::s)=val s:=by rw[q6U];simp[dv]
theorem qst(n:Nat)(s:List UInt8):val (List.replicate n 48++s)=val s:=by
 induction n with
 | zero=>rfl
 | succ n ih=>rw[List.replicate_succ,List.cons_append,qBs,ih]
theorem qoQ(n:Nat):q6C (List.replicate n 48):=by
 intro c hc
 rw[(List.mem_replicate.1 hc).2];decide
def rI(l:List Int):R:=l.map fun v=>[.i v]
theorem qnU(l:List Int):qh (rI l)=l.length:=by simp[qh,rI]
theorem qHC(l:List Int)(i:Int):cI (rI l) i 0=l.getD i.toNat 0:=by
 unfold cI vk rI
 simp only[List.getD_eq_getElem?_getD,List.getElem?_map]
 cases l[i.toNat]?<;>rfl
theorem qCv(x v:U):qmX [x] 0 [v]=[v]:=rfl
theorem qym(l:List Int)(i v:Int):q6D (rI l) i 0 [.i v]=rI (l.set i.toNat v):=by
 unfold q6D rI
 apply List.ext_getElem?
 intro j
 by_cases hj:j=i.toNat
 ·subst hj
  by_cases hl:i.toNat<l.length
  ·simp[hl,List.getD_eq_getElem?_getD,qCv]
  ·rw[List.getElem?_eq_none (by simp;omega),List.getElem?_eq_none (by simp;omega)]
 ·rw[List.getElem?_set_ne (Ne.symm hj),List.getElem?_map,List.getElem?_map,List.getElem?_set_ne (Ne.symm hj)]
theorem qm8(n v:Int):q4U n [.i v]=rI (List.replicate n.toNat v):=by simp[q4U,rI]
theorem qIg(l:List Int):qkh (rI l)=l.map fun v=>UInt8.ofNat v.toNat:=by
 unfold qkh rI
 rw[List.map_map]
 rfl
theorem qIJ(l:List Int)(i:Int)(s:List UInt8):qzh (rI l) i s=rI (l.take i.toNat++s.map (fun c=>(c.toNat:Int))++l.drop (i.toNat+s.length)):=by
 unfold qzh rI
 simp[List.map_take,List.map_drop]
theorem qpg(s:List UInt8):qkh (rI (s.map fun c=>(c.toNat:Int)))=s:=by
 rw[qIg,List.map_map]
 have:((fun v:Int=>UInt8.ofNat v.toNat)∘fun c:UInt8=>(c.toNat:Int))=id:=by
  funext c;simp
 rw[this,List.map_id]
theorem qm5{s:List UInt8}{i:Nat}(h:i<s.length):sat s (i:Int)=(s[i].toNat:Int):=by
 unfold sat
 simp[List.getD_eq_getElem?_getD,h]
theorem qY(s t:List UInt8):(seq s t=true)=(s=t):=by simp[seq]
theorem qHD{x:Int}(h:48≤x∧x≤255):qA .u8 x 48=x-48:=by
 unfold qA IntKind.wrap
 simp[IntKind.signed,IntKind.bits];omega
theorem qvp{x:Int}(h:0≤x∧x≤255):we .u8 x=x:=by
 unfold we IntKind.wrap
 simp[IntKind.signed,IntKind.bits];omega
theorem qr2(a b:Nat):q83 (a:Int) (b:Int)=((a%b:Nat):Int):=by
 unfold q83;rw[Int.tmod_eq_emod_of_nonneg (by omega)];rfl
theorem qwX{a b:Nat}(h:a<9223372036854775808):yi .i64 (a:Int) (b:Int)=((a/b:Nat):Int):=by
 unfold yi
 rw[Int.tdiv_eq_ediv_of_nonneg (by omega)]
 have:(a:Int)/(b:Int)=((a/b:Nat):Int):=rfl
 have h2:a/b≤a:=Nat.div_le_self a b
 rw[this]
 generalize a/b=q at *
 unfold IntKind.wrap
 simp[IntKind.signed,IntKind.bits];omega
theorem vZ{S:List PV→TR}(I:Nat→List PV→Prop)(Q:Nat→List PV→Prop){n:Nat}(hn:n<9223372036854775808)
  (h:∀k ps,k≤n→I k ps→(∃k' qs,k'<k∧(S ps).run=some (0,qs)∧I k' qs)∨∃j qs,(S ps).run=some (j+1,qs)∧Q j qs) {ps:List PV} (h0:I n ps):∃j qs,(qf S ps).run=some (j,qs)∧Q j qs:=by
 have key:∀m k ps,k≤n→k<m→I k ps→∃j qs,(qmS S m ps).run=some (j,qs)∧Q j qs:=by
  intro m
  induction m with
  | zero=>intro k ps _ h;omega
  | succ m ih=>
   intro k ps hk hm hI
   rcases h k ps hk hI with⟨k',qs,h1,h2,h3⟩|⟨j,qs,h1,h2⟩
   ·obtain⟨j,rs,g1,g2⟩:=ih k' qs (by omega) (by omega) h3
    exact⟨j,rs,by rw[qjJ h2];exact g1,g2⟩
   ·exact⟨j,qs,q9N h1,h2⟩
 exact key qit n ps (Nat.le_refl _) (Nat.lt_trans hn (by unfold qit;decide)) h0
end Go.Eng

namespace Go.Eng
theorem qdH{m:Int}(h:m<0):tI m=45::tN m.natAbs:=by unfold tI;rw[if_pos h]
theorem qmd{m:Int}(h:¬m<0):tI m=tN m.natAbs:=by unfold tI;rw[if_neg h]
theorem q1d(n:Nat):tI (n:Int)=tN n:=by rw[qmd (by omega)];rfl
theorem qAv:tN 0=[48]:=rfl
theorem qjF{s:List UInt8}(hd:q6C s)(hn:s≠[]):∃c t,s=c::t∧48≤c.toNat∧c.toNat≤57:=by
 cases s with
 | nil=>exact absurd rfl hn
 | cons c t=>exact⟨c,t,rfl,(q0Q.1 hd).1⟩
theorem qyV(m:Int):(tI m).length≤(tN m.natAbs).length+1:=by unfold tI;split<;>simp
theorem qs3(m:Int):0<(tI m).length:=by
 have:=ql4 m.natAbs
 unfold tI;split<;>simp<;>omega
theorem qyB{m n:Int}(h:tI m=tI n):m=n:=by
 have key:∀{m n:Int},m<0→¬n<0→tI m≠tI n:=by
  intro m n h1 h2 e
  rw[qdH h1,qmd h2] at e
  obtain⟨c,t,hc,h3,h4⟩:=qjF (wg n.natAbs) (qsd _)
  rw[hc] at e
  have:=(List.cons.inj e).1
  rw[←this] at h3
  exact absurd h3 (by decide)
 by_cases h1:m<0<;>by_cases h2:n<0
 ·rw[qdH h1,qdH h2] at h
  have:=qvE (List.cons.inj h).2
  omega
 ·exact absurd h (key h1 h2)
 ·exact absurd h.symm (key h2 h1)
 ·rw[qmd h1,qmd h2] at h
  have:=qvE h
  omega
theorem qBw(m:Int):(sat (tI m) 0=45)=(m<0):=by
 by_cases h:m<0
 ·rw[qdH h];simp[sat,h]
 ·rw[qmd h]
  obtain⟨c,t,hc,h3,h4⟩:=qjF (wg m.natAbs) (qsd _)
  rw[hc]
  simp[sat,h];omega
theorem wO(m:Int):(qx [.s (tI m)]).run=some (0,[.s (tN m.natAbs)]):=by
 rw[qnR]
 have hp:=qs3 m
 have hne:¬tI m=[]:=fun h=>by rw[h] at hp;simp at hp
 have h1:(0:Int)<qt (tI m):=by unfold qt;omega
 have h2:(1:Int)≤qt (tI m):=by omega
 simp only[STD,qY,hne,h1,h2,qBw,Int.le_refl,show (0:Int)≤qt (tI m) by omega,and_self,show (0:Int)≤1 by omega]
 by_cases h:m<0
 ·rw[if_pos h,qdH h];simp[qds,qt]
 ·rw[if_neg h,qmd h]
theorem j2(m:Int):(qF [.s (tI m)]).run=some (0,[.b (decide (m<0))]):=by
 rw[quj]
 have hp:=qs3 m
 have h1:(0:Int)<qt (tI m):=by unfold qt;omega
 have h2:ieq (sat (tI m) 0) 45=decide (m<0):=by
  have:=qBw m
  by_cases h:m<0<;>simp[ieq,h] at this ⊢<;>exact this
 simp only[STD,h1,h2,Int.le_refl,and_self]
theorem q0m(n:Nat)(b:Bool)(hl:(tN n).length≤100000000):(qN [.s (tN n),.b b]).run=some (0,[.s (tI (if b then -(n:Int) else n))]):=by
 rw[qrv]
 have h1:qt [45]+qt (tN n)≤140737488355328:=by show (1:Int)+((tN n).length:Int)≤_;omega
 have h0:(tN n=[48])=(n=0):=by
  rw[←qAv];exact propext ⟨fun h=>qvE h,fun h=>by rw[h]⟩
 simp only[STD,qY,h1,h0]
 cases b with
 | false=>simp[q1d]
 | true=>
  by_cases hn:n=0
  ·subst hn;simp[tI,qAv]
  ·have:(-(n:Int))<0:=by omega
   simp[hn,qdH this,qeY]
theorem qe6(m:Int)(hl:(tN m.natAbs).length≤100000000):(zP [.s (tI m)]).run=some (0,[.s (tI (-m))]):=by
 rw[qsm]
 simp only[STD,wO,j2,q0m _ _ hl]
 have e:(if ¬m<0 then -(m.natAbs:Int) else (m.natAbs:Int))=-m:=by
  by_cases h:m<0
  ·rw[if_neg (by simp[h])];omega
  ·rw[if_pos (by simp[h])];omega
 rw[e]
theorem qb1{s:List UInt8}{i:Nat}(h:i<s.length):val (s.take (i+1))=10*val (s.take i)+dv s[i]:=by
 rw[List.take_add_one,List.getElem?_eq_getElem h,Option.toList_some,qnV]
theorem qyz{s:List UInt8}(h:q6C s)(i:Nat):q6C (s.take i):=fun c hc=>h c (List.mem_of_mem_take hc)
theorem qF1{s:List UInt8}(h:q6C s)(i:Nat):q6C (s.drop i):=fun c hc=>h c (List.mem_of_mem_drop hc)
theorem qjI{s:List UInt8}(h:q6C s){i:Nat}(hi:i<s.length):48≤s[i].toNat∧s[i].toNat≤57:=h _ (List.getElem_mem hi)
theorem qA9{s:List UInt8}(h:q6C s){i:Nat}(hi:i<s.length):we .i64 (qA .u8 (sat s (i:Int)) 48)=(dv s[i]:Int)∧dv s[i]<10:=by
 have hd:=qjI h hi
 rw[qm5 hi,qHD (by omega),qr9 (by omega)]
 unfold dv;omega
theorem qkG(m:Int)(hl:(tN m.natAbs).length≤18):(uD [.s (tI m)]).run=some (0,[.i m]):=by
 rw[qrD]
 have hd:=wg m.natAbs
 have k:=jv (S:=kI) (fun i=>[.s (tI m),.i (val ((tN m.natAbs).take i):Int),.s (tN m.natAbs),.i (i:Int)]) (0,[.s (tI m),.i (m.natAbs:Int)]) (tN m.natAbs).length (by omega) (fun i hi=>by
  rw[qfb]
  obtain⟨e1,e2⟩:=qA9 hd hi
  have hv:=q84 (qyz hd i)
  have hv2:10^((tN m.natAbs).take i).length≤100000000000000000:=Nat.le_trans (Nat.pow_le_pow_right (n:=10) (by omega) (show _≤17 by rw[List.length_take];omega)) (by decide)
  have hv3:=Nat.lt_of_lt_of_le hv hv2
  clear hv hv2
  have hlt:(i:Int)<qt (tN m.natAbs):=by unfold qt;omega
  have e3:qk .i64 (ux .i64 10 (val ((tN m.natAbs).take i):Int)) (dv (tN m.natAbs)[i]:Int)=((10*val ((tN m.natAbs).take i)+dv (tN m.natAbs)[i]:Nat):Int):=by
   rw[q2L (by omega),qO (by omega)];omega
  simp only[STD,hlt,kq,and_self,e1,kd hi (by omega),qb1 hi,e3]) (by
  rw[qfb]
  have:¬((tN m.natAbs).length:Int)<qt (tN m.natAbs):=by unfold qt;omega
  simp only[STD,this,List.take_length,q0V])
 have k':(qf kI [.s (tI m),.i 0,.s (tN m.natAbs),.i 0]).run=_:=k
 have hm:m.natAbs<1000000000000000000:=Nat.lt_of_lt_of_le (q6K hl) (by decide)
 have hneg:m<0→qA .i64 0 (m.natAbs:Int)=m:=fun h=>by rw[qAK (by omega)];omega
 have hpos:¬m<0→(m.natAbs:Int)=m:=fun h=>by omega
 clear hm k hd
 simp only[STD,wO,k',j2]
 by_cases h:m<0
 ·rw[if_pos h,hneg h]
 ·rw[if_neg h,hpos h]
theorem q7Q(m n:Int):(wF [.s (tI m),.s (tI n)]).run=some (0,if (tN m.natAbs).length≤18∧(tN n.natAbs).length≤18 then [.i m,.i n,.b true] else [.i 0,.i 0,.b false]):=by
 rw[quH]
 have e:∀t:List UInt8,(18<qt t)=¬(t.length≤18):=fun t=>by unfold qt;simp only[eq_iff_iff];omega
 by_cases h1:(tN m.natAbs).length≤18
 ·by_cases h2:(tN n.natAbs).length≤18
  ·simp only[STD,wO,e,h1,h2,qkG m h1,qkG n h2,and_self]
  ·simp only[STD,wO,e,h1,h2,and_false]
 ·simp only[STD,wO,e,h1,false_and]
theorem qw0{d:Int}(h0:0≤d)(h:d<10):qkh [[.i (we .u8 (qk .i64 48 d))]]=[dch d.toNat]:=by
 rw[qO (by omega),qvp (by omega)]
 show [UInt8.ofNat (48+d).toNat]=[UInt8.ofNat (48+d.toNat)]
 rw[show (48+d).toNat=48+d.toNat by omega]
theorem qEz{S:List PV→TR}(hS:∀(y0:Int) (y1:List UInt8),S [.i y0,.s y1]=(.br (ilt 9 y0) (.br (ile ((qt (qkh [[(.i (we .u8 (qk .i64 48 (q83 y0 10))))]]))+(qt y1)) 140737488355328) (.leaf (0,[(.i (yi .i64 y0 10)),(.s (qeY (qkh [[(.i (we .u8 (qk .i64 48 (q83 y0 10))))]]) y1))])) .fail) (.leaf (1,[(.i y0),(.s y1)]))))
  (n:Nat) (hn:n<9223372036854775808):∃(a:Nat) (r:List UInt8),(qf S [.i (n:Int),.s []]).run=some (0,[.i (a:Int),.s r])∧a<10∧tN n=tN a++r:=by
 have hlen:(tN n).length≤19:=q7w 18 n (by omega)
 obtain⟨j,qs,h1,h2⟩:=vZ (S:=S) (fun k ps=>∃(r:List UInt8),ps=[.i (k:Int),.s r]∧tN n=tN k++r) (fun j qs=>∃(a:Nat) (r:List UInt8),j=0∧qs=[.i (a:Int),.s r]∧a<10∧tN n=tN a++r) hn (fun k ps hk ⟨r,hps,ht⟩=>by
  subst hps
  by_cases h9:k<10
  ·right
   have:¬(9:Int)<(k:Int):=by omega
   exact⟨0,_,by rw[hS];simp only[STD,this],k,r,rfl,rfl,h9,ht⟩
  ·left
   have h9':(9:Int)<(k:Int):=by omega
   have hr:q83 (k:Int) 10=((k%10:Nat):Int):=qr2 k 10
   have hq:yi .i64 (k:Int) 10=((k/10:Nat):Int):=qwX (b:=10) (by omega)
   have hd:qkh [[(.i (we .u8 (qk .i64 48 (q83 (k:Int) 10))))]]=[dch (k%10)]:=by
    rw[hr,qw0 (by omega) (by omega)];rfl
   have hrl:r.length≤19:=by
    have:=congrArg List.length ht
    rw[List.length_append] at this;omega
   have hle:qt [dch (k%10)]+qt r≤140737488355328:=by
    show (1:Int)+(r.length:Int)≤_;omega
   refine⟨k/10,[.i ((k/10:Nat):Int),.s ([dch (k%10)]++r)],by omega,?_,_,rfl,?_⟩
   ·rw[hS];simp only[STD,h9',hd,hq,hle];rfl
   ·rw[ht,qAp (by omega),List.append_assoc]) (ps:=[.i (n:Int),.s []]) ⟨[],rfl,by simp⟩
 obtain⟨a,r,rfl,rfl,h3,h4⟩:=h2
 exact⟨a,r,h1,h3,h4⟩
theorem qE2{a:Nat}{r:List UInt8}(ha:a<10):qeY (qkh [[(.i (we .u8 (qk .i64 48 (a:Int))))]]) r=tN a++r:=by
 rw[qw0 (by omega) (by omega),qxU ha];rfl
theorem of_le{a:Nat}{r:List UInt8}(ha:a<10)(hr:r.length≤1000):qt (qkh [[(.i (we .u8 (qk .i64 48 (a:Int))))]])+qt r≤140737488355328:=by
 rw[qw0 (by omega) (by omega)]
 show (1:Int)+(r.length:Int)≤_;omega
theorem qGI{x:Int}(h1:-9223372036854775808<x)(h2:x≤9223372036854775807):qA .i64 0 x=-x:=qAK (by omega)
theorem qHM(n:Nat)(hn:n<9223372036854775808):(q6m [.i (n:Int)]).run=some (0,[.s (tN n)])∧(ze [.i (n:Int)]).run=some (0,[.s (tN n)]):=by
 obtain⟨a,r,h1,h2,h3⟩:=qEz qun n hn
 obtain⟨a',r',h1',h2',h3'⟩:=qEz qxc n hn
 have hlen:(tN n).length≤19:=q7w 18 n (by omega)
 have hr:r.length≤1000:=by have:=congrArg List.length h3;rw[List.length_append] at this;omega
 have hr':r'.length≤1000:=by have:=congrArg List.length h3';rw[List.length_append] at this;omega
 have hneg:qA .i64 0 (n:Int)=-(n:Int):=qGI (by omega) (by omega)
 have h0:((n:Int)=-(n:Int))=(n=0):=by simp only[eq_iff_iff];omega
 have hlt:¬(n:Int)<0:=by omega
 have hz:((n:Int)=0)=(n=0):=by simp only[eq_iff_iff];omega
 constructor
 ·rw[qxt]
  simp only[STD,hneg,h0,hz,hlt,h1,qE2 h2,of_le h2 hr,←h3]
  by_cases h:n=0<;>simp[h]
 ·rw[qrL]
  simp only[STD,hneg,h0,hz,hlt,h1',qE2 h2',of_le h2' hr',←h3']
  by_cases h:n=0<;>simp[h]
theorem kK(n:Int)(h1:-9223372036854775808<n)(h2:n≤9223372036854775807):(ze [.i n]).run=some (0,[.s (tI n)]):=by
 by_cases h:n<0
 ·obtain⟨a,ha⟩:∃a:Nat,n=-(a:Int):=⟨n.natAbs,by omega⟩
  subst ha
  have hneg:qA .i64 0 (-(a:Int))=(a:Int):=by rw[qGI (by omega) (by omega)];omega
  have hlen:(tN a).length≤19:=q7w 18 a (by omega)
  have ht:=qe6 (a:Int) (by simp;omega)
  rw[q1d] at ht
  rw[qrL]
  have e1:¬(-(a:Int)=(a:Int)):=by omega
  simp only[STD,hneg,h,e1,(qHM a (by omega)).1,ht]
 ·obtain⟨a,rfl⟩:∃a:Nat,n=(a:Int):=⟨n.toNat,by omega⟩
  rw[(qHM a (by omega)).2,q1d]
theorem qiI(m n:Nat):(kV [.s (tN m),.s (tN n)]).run=some (0,[.b (decide (m<n))]):=by
 rw[qwi]
 have h:=qzF m n
 have e1:(qt (tN m)<qt (tN n))=((tN m).length<(tN n).length):=by unfold qt;simp only[eq_iff_iff];omega
 have e2:(qt (tN m)=qt (tN n))=((tN m).length=(tN n).length):=by unfold qt;simp only[eq_iff_iff];omega
 simp only[STD,e1,e2]
 by_cases h1:(tN m).length<(tN n).length
 ·have:m<n:=h.1 (.inl h1)
  simp[h1,this]
 ·by_cases h2:(tN m).length=(tN n).length
  ·cases hs:slt (tN m) (tN n) with
   | true=>simp[h2,h.1 (.inr ⟨h2,hs⟩)]
   | false=>
    have:¬m<n:=fun hh=>by rcases h.2 hh with h3|⟨_,h3⟩<;>simp_all
    simp[h2,this]
  ·have:¬m<n:=fun hh=>by rcases h.2 hh with h3|⟨h3,_⟩<;>omega
   simp[h1,h2,this]
end Go.Eng

namespace Go.Eng
theorem qpM(s:List UInt8)(n:Nat)(h0:0<n)(hn:n≤1000000000)(hl:s.length≤n):(q3t [.s s,.i (n:Int)]).run=some (0,[.s (List.replicate (n-s.length) 48++s)]):=by
 rw[qw4]
 have k:=jv (S:=q2A) (fun i=>[.s s,.i (n:Int),.i (i:Int),.r (rI (List.replicate i 48++List.replicate (n-i) 0))]) (0,[.s s,.i (n:Int),.r (rI (List.replicate n 48))]) n (by omega) (fun i hi=>by
  rw[qif]
  have h1:(i:Int)<(n:Int):=by omega
  have h2:(i:Int)<qh (rI (List.replicate i 48++List.replicate (n-i) 0)):=by rw[qnU];simp;omega
  have h3:(List.replicate i (48:Int)++List.replicate (n-i) 0).set (i:Int).toNat 48=List.replicate (i+1) 48++List.replicate (n-(i+1)) 0:=by
   rw[Int.toNat_natCast,List.set_append_right _ _ (by simp),List.length_replicate,Nat.sub_self]
   rw[show n-i=(n-(i+1))+1 by omega,List.replicate_succ,List.set_cons_zero,List.replicate_succ']
   simp
  simp only[STD,h1,h2,kq,and_self,kd hi (by omega),qym,h3]) (by
  rw[qif]
  simp only[STD,Int.lt_irrefl,Nat.sub_self,List.replicate_zero,List.append_nil])
 have k':(qf q2A [.s s,.i (n:Int),.i 0,.r (rI (List.replicate n 0))]).run=some (0,[.s s,.i (n:Int),.r (rI (List.replicate n 48))]):=by simpa using k
 have e1:qA .i64 (n:Int) (qt s)=((n-s.length:Nat):Int):=by
  rw[wA (by unfold qt;omega)];unfold qt;omega
 have e2:(0:Int)≤(n:Int):=by omega
 have e3:(n:Int)≤140737488355328:=by omega
 have e4:(0:Int)<qh (rI (List.replicate n 48)):=by rw[qnU,List.length_replicate];omega
 have e5:((n-s.length:Nat):Int)≤qh (rI (List.replicate n 48)):=by rw[qnU,List.length_replicate];omega
 have e6:qt s≤qzt (qh (rI (List.replicate n 48))) ((n-s.length:Nat):Int):=by rw[qnU,List.length_replicate];unfold qzt qt;omega
 have e7:qkh (rI (List.take ((n-s.length:Nat):Int).toNat (List.replicate n 48)++s.map (fun c=>(c.toNat:Int))++List.drop (((n-s.length:Nat):Int).toNat+s.length) (List.replicate n 48)))=List.replicate (n-s.length) 48++s:=by
  rw[Int.toNat_natCast,List.take_replicate,List.drop_replicate,Nat.min_eq_left (by omega),show n-(n-s.length+s.length)=0 by omega,List.replicate_zero,List.append_nil]
  have:List.replicate (n-s.length) (48:Int)=(List.replicate (n-s.length) (48:UInt8)).map fun c=>(c.toNat:Int):=by rw[List.map_replicate];rfl
  rw[this,←List.map_append,qpg]
 simp only[STD,qm8,Int.toNat_natCast,e2,e3,and_self,k',e4,e5,e1,kq,e6,qIJ]
 rw[Int.toNat_natCast] at e7
 rw[e7]
theorem qdj{s:List UInt8}(hd:q6C s)(hn:s≠[])(hl:s.length≤1000000000):(zS [.s s]).run=some (0,[.s (tN (val s))]):=by
 rw[qwr]
 obtain⟨j,qs,h1,h2⟩:=vZ (S:=q5d) (fun k ps=>∃t:List UInt8,ps=[.s t]∧t.length=k∧q6C t∧t≠[]∧val t=val s) (fun j qs=>j=0∧qs=[.s (tN (val s))]) (n:=s.length) (by omega) (fun k ps hk ⟨t,hps,hlk,hdt,hnt,hv⟩=>by
  subst hps
  have hp:0<t.length:=List.length_pos_iff.2 hnt
  have hs0:(0:Int)<qt t:=by unfold qt;omega
  rw[qt8]
  by_cases h1:1<t.length
  ·have hs1:(1:Int)<qt t:=by unfold qt;omega
   obtain⟨c,u,rfl⟩:∃c u,t=c::u:=by
    cases t with
    | nil=>exact absurd rfl hnt
    | cons c u=>exact⟨c,u,rfl⟩
   have hsat:sat (c::u) 0=(c.toNat:Int):=by simp[sat]
   by_cases h48:c=48
   ·left
    subst h48
    have hu:u≠[]:=by intro h;subst h;simp at h1
    refine⟨u.length,[.s u],by simp at hlk;omega,?_,u,rfl,rfl,(q0Q.1 hdt).2,hu,by rw[←hv,qBs]⟩
    have hsub:qds (48::u) 1 (qt (48::u))=u:=by simp[qds,qt]
    have h48':(((48:UInt8).toNat:Nat):Int)=48:=rfl
    simp only[STD,hs1,hs0,hsat,h48',Int.le_refl,and_self,Int.le_of_lt hs1,Int.le_of_lt hs0,show (0:Int)≤1 by omega,hsub]
   ·right
    have hne:¬((c.toNat:Int)=48):=fun h=>h48 (UInt8.toNat_inj.1 (by show c.toNat=48;omega))
    refine⟨0,[.s (c::u)],?_,rfl,?_⟩
    ·simp only[STD,hs1,hs0,hsat,hne,Int.le_refl,and_self]
    ·rw[←hv,←qtE hdt hnt (.inr (by simpa using h48))]
  ·right
   have hs1:¬(1:Int)<qt t:=by unfold qt;omega
   refine⟨0,[.s t],?_,rfl,?_⟩
   ·simp only[STD,hs1]
   ·rw[←hv,←qtE hdt hnt (.inl (by omega))]) (ps:=[.s s]) ⟨s,rfl,rfl,hd,hn,rfl⟩
 obtain⟨rfl,rfl⟩:=h2
 simp only[STD,h1]
theorem qFU{x y:UInt8}(hx:48≤x.toNat∧x.toNat≤57)(hy:48≤y.toNat∧y.toNat≤57)(c:Nat)(hc:c≤1)(add:Bool) :
  ∃(d:UInt8) (c':Nat),(48≤d.toNat∧d.toNat≤57)∧c'≤1∧(q2y [.i x.toNat,.i y.toNat,.i (c:Int),.b add]).run=some (0,[.i d.toNat,.i (c':Int)]) ∧
   (if add then dv x+dv y+c=dv d+10*c' else dv x+10*c'=dv y+c+dv d):=by
 have ex:we .i64 (qA .u8 (x.toNat:Int) 48)=(dv x:Int):=by rw[qHD (by omega),qr9 (by omega)];unfold dv;omega
 have ey:we .i64 (qA .u8 (y.toNat:Int) 48)=(dv y:Int):=by rw[qHD (by omega),qr9 (by omega)];unfold dv;omega
 have lx:=qCc hx
 have ly:=qCc hy
 have mk:∀v:Nat,v<10→((dch v).toNat:Int)=48+v:=fun v hv=>by rw[q3l hv];omega
 rw[qsc]
 simp only[STD,ex,ey]
 cases add with
 | true=>
  simp only[STD]
  have e1:qk .i64 (qk .i64 (dv x:Int) (dv y:Int)) (c:Int)=((dv x+dv y+c:Nat):Int):=by rw[qO (x:=(dv x:Int)) (by omega),qO (by omega)];omega
  rw[e1]
  by_cases h9:9<dv x+dv y+c
  ·have h9':(9:Int)<((dv x+dv y+c:Nat):Int):=by omega
   refine⟨dch (dv x+dv y+c-10),1,by rw[q3l (by omega)];omega,by omega,?_,by rw[qq8 (by omega)];omega⟩
   rw[if_pos h9',qO (by omega),wA (by omega),qvp (by omega),mk _ (by omega)]
   rw[show (48:Int)+((dv x+dv y+c:Nat):Int)-10=48+((dv x+dv y+c-10:Nat):Int) by omega];rfl
  ·have h9':¬(9:Int)<((dv x+dv y+c:Nat):Int):=by omega
   have h0:¬((dv x+dv y+c:Nat):Int)<0:=by omega
   refine⟨dch (dv x+dv y+c),0,by rw[q3l (by omega)];omega,by omega,?_,by rw[qq8 (by omega)];omega⟩
   rw[if_neg h9',if_neg h0,qO (by omega),qvp (by omega),mk _ (by omega)];rfl
 | false=>
  simp only[STD]
  have e1:qA .i64 (qA .i64 (dv x:Int) (dv y:Int)) (c:Int)=(dv x:Int)-dv y-c:=by rw[wA (x:=(dv x:Int)) (by omega),wA (by omega)]
  rw[e1]
  have h9':¬(9:Int)<(dv x:Int)-dv y-c:=by omega
  rw[if_neg h9']
  by_cases h0:(dv x:Int)-dv y-c<0
  ·refine⟨dch (dv x+10-dv y-c),1,by rw[q3l (by omega)];omega,by omega,?_,?_⟩
   ·rw[if_pos h0,qO (x:=48) (by omega),qO (by omega),qvp (by omega),mk _ (by omega)]
    rw[show (48:Int)+((dv x:Int)-dv y-c)+10=48+((dv x+10-dv y-c:Nat):Int) by omega];rfl
   ·rw[qq8 (by omega)];omega
  ·refine⟨dch (dv x-dv y-c),0,by rw[q3l (by omega)];omega,by omega,?_,?_⟩
   ·rw[if_neg h0,qO (by omega),qvp (by omega),mk _ (by omega)]
    rw[show (48:Int)+((dv x:Int)-dv y-c)=48+((dv x-dv y-c:Nat):Int) by omega];rfl
   ·rw[qq8 (by omega)];omega
theorem qEo{s:List UInt8}{k:Nat}(h:k<s.length):s.drop k=s[k]::s.drop (k+1):=(List.drop_eq_getElem_cons h)
theorem qBr{s:List UInt8}{k:Nat}(h:k<s.length):val (s.drop k)=dv s[k]*10^(s.length-(k+1))+val (s.drop (k+1)):=by
 rw[qEo h,q6U,List.length_drop]
theorem qy4{a b:List UInt8}{n:Nat}(ha:q6C a)(hb:q6C b)(hla:a.length=n)(hlb:b.length=n)(hn:n≤100000001)(add:Bool) :
  ∃(t:List UInt8) (c:Nat),(qf q1j [.s a,.s b,.b add,.i 0,.i ((n:Int)-1),.r (rI (List.replicate n 0))]).run=some (0,[.r (rI (t.map fun c=>(c.toNat:Int)))])∧q6C t∧t.length=n ∧
   (if add then val a+val b=val t+c*10^n else val a+c*10^n=val b+val t):=by
 obtain⟨j,qs,h1,h2⟩:=vZ (S:=q1j) (fun k ps=>∃(t:List UInt8) (c:Nat),ps=[.s a,.s b,.b add,.i (c:Int),.i ((k:Int)-1),.r (rI (List.replicate k 0++t.map fun c=>(c.toNat:Int)))]∧c≤1∧q6C t∧k+t.length=n ∧
   (if add then val (a.drop k)+val (b.drop k)=val t+c*10^(n-k) else val (a.drop k)+c*10^(n-k)=val (b.drop k)+val t))
  (fun j qs=>j=0∧∃(t:List UInt8) (c:Nat),qs=[.r (rI (t.map fun c=>(c.toNat:Int)))]∧q6C t∧t.length=n∧(if add then val a+val b=val t+c*10^n else val a+c*10^n=val b+val t)) (n:=n) (by omega) (fun k ps hk ⟨t,c,hps,hc,hdt,hlt,hrel⟩=>by
  subst hps
  rw[qqq]
  cases k with
  | zero=>
   right
   have:¬(0:Int)≤((0:Nat):Int)-1:=by omega
   refine⟨0,[.r (rI (t.map fun c=>(c.toNat:Int)))],?_,rfl,t,c,rfl,hdt,by omega,by simpa using hrel⟩
   simp only[STD,this,List.replicate_zero,List.nil_append]
  | succ k=>
   left
   have e0:((k+1:Nat):Int)-1=(k:Int):=by omega
   rw[e0]
   have hka:k<a.length:=by omega
   have hkb:k<b.length:=by omega
   obtain⟨d,c',hd,hc',hrun,hcol⟩:=qFU (qjI ha hka) (qjI hb hkb) c hc add
   have h3:(k:Int)<qt a:=by unfold qt;omega
   have h4:(k:Int)<qt b:=by unfold qt;omega
   have h5:(k:Int)<qh (rI (List.replicate (k+1) 0++t.map fun c=>(c.toNat:Int))):=by rw[qnU];simp;omega
   have h6:(List.replicate (k+1) (0:Int)++t.map fun c=>(c.toNat:Int)).set (k:Int).toNat (d.toNat:Int)=List.replicate k 0++(d::t).map fun c=>(c.toNat:Int):=by
    rw[Int.toNat_natCast,List.replicate_succ',List.append_assoc,List.set_append_right _ _ (by simp),List.length_replicate,Nat.sub_self];rfl
   have h7:qA .i64 (k:Int) 1=(k:Int)-1:=wA (by omega)
   refine⟨k,[.s a,.s b,.b add,.i (c':Int),.i ((k:Int)-1),.r (rI (List.replicate k 0++(d::t).map fun c=>(c.toNat:Int)))],by omega,?_,d::t,c',rfl,hc',q0Q.2 ⟨hd,hdt⟩,by simp;omega,?_⟩
   ·simp only[STD,kq,h3,h4,h5,and_self,qm5 hka,qm5 hkb,hrun,qym,h6,h7]
   ·rw[qBr hka,qBr hkb,q6U,hla,hlb,show t.length=n-(k+1) by omega,show n-k=(n-(k+1))+1 by omega,Nat.pow_succ]
    generalize 10^(n-(k+1))=p at *
    cases add with
    | true=>
     simp only[↓reduceIte] at hrel hcol ⊢
     have:=congrArg (·*p) hcol
     simp only[Nat.add_mul] at this
     grind
    | false=>
     simp only[Bool.false_eq_true,↓reduceIte] at hrel hcol ⊢
     have:=congrArg (·*p) hcol
     simp only[Nat.add_mul] at this
     grind) (ps:=[.s a,.s b,.b add,.i 0,.i ((n:Int)-1),.r (rI (List.replicate n 0))]) ⟨[],0,by simp,by omega,qmw,by simp,by
    rw[List.drop_eq_nil_of_le (by omega),List.drop_eq_nil_of_le (by omega)];cases add<;>simp[qgF]⟩
 obtain⟨rfl,t,c,rfl,h3,h4,h5⟩:=h2
 exact⟨t,c,h1,h3,h4,h5⟩
theorem qF3{m n t c p:Nat}{add:Bool}(hm:m<p)(hn:n<p)(ht:t<p*10)(h4:if add then m+n=t+c*(p*10) else m+c*(p*10)=n+t)(hle:add=false→n≤m):t=if add then m+n else m-n:=by
 have hc0:c=0:=by
  rcases Nat.eq_zero_or_pos c with h|h
  ·exact h
  ·exfalso
   have h5:1*(p*10)≤c*(p*10):=Nat.mul_le_mul_right (p*10) h
   cases add with
   | true=>simp only[↓reduceIte] at h4;omega
   | false=>simp only[Bool.false_eq_true,↓reduceIte] at h4;have:=hle rfl;omega
 subst hc0
 cases add with
 | true=>simp only[↓reduceIte] at h4 ⊢;omega
 | false=>simp only[Bool.false_eq_true,↓reduceIte] at h4 ⊢;omega
theorem qwD(a b:Nat):qi9 (a:Int) (b:Int)=((max a b:Nat):Int):=by unfold qi9;split<;>omega
theorem qaV(m n:Nat)(add:Bool)(hm:(tN m).length≤100000000)(hn:(tN n).length≤100000000)(hle:add=false→n≤m) :
  (j0 [.s (tN m),.s (tN n),.b add]).run=some (0,[.s (tN (if add then m+n else m-n))]):=by
 rw[quz]
 obtain⟨N,hN⟩:∃N,N=max (tN m).length (tN n).length+1:=⟨_,rfl⟩
 have l1:(tN m).length≤N-1:=by omega
 have l2:(tN n).length≤N-1:=by omega
 have l3:N=N-1+1:=by omega
 have p1:10^(tN m).length≤10^(N-1):=Nat.pow_le_pow_right (Nat.succ_pos 9) l1
 have p2:10^(tN n).length≤10^(N-1):=Nat.pow_le_pow_right (Nat.succ_pos 9) l2
 have p3:10^N=10^(N-1)*10:=(congrArg (10^·) l3).trans (Nat.pow_succ (n:=10) (m:=N-1))
 have e0:qk .i64 (qi9 (qt (tN m)) (qt (tN n))) 1=(N:Int):=by
  unfold qt;rw[qwD,qO (by omega)];omega
 have e1:qA .i64 (N:Int) 1=(N:Int)-1:=wA (by omega)
 have e2:(0:Int)≤(N:Int)∧(N:Int)≤140737488355328:=by omega
 have wa:=qpM (tN m) N (by omega) (by omega) (by omega)
 have wb:=qpM (tN n) N (by omega) (by omega) (by omega)
 have hda:q6C (List.replicate (N-(tN m).length) 48++tN m):=q8X.2 ⟨qoQ _,wg _⟩
 have hdb:q6C (List.replicate (N-(tN n).length) 48++tN n):=q8X.2 ⟨qoQ _,wg _⟩
 obtain⟨t,c,h1,h2,h3,h4⟩:=qy4 (n:=N) hda hdb (by simp;omega) (by simp;omega) (by omega) add
 rw[qst,qst,q0V,q0V] at h4
 have ht:t≠[]:=by intro h;subst h;simp at h3;omega
 have hb:=qdj h2 ht (by omega)
 have e3:q4U (N:Int) [.i 0]=rI (List.replicate N 0):=by rw[qm8];rfl
 have hvm:=q84 (wg m)
 have hvn:=q84 (wg n)
 have hvt:=q84 h2
 rw[q0V] at hvm hvn
 rw[h3] at hvt
 rw[p3] at h4 hvt
 have q1:=Nat.lt_of_lt_of_le hvm p1
 have q2:=Nat.lt_of_lt_of_le hvn p2
 clear hvm hvn p1 p2 p3
 have hval:val t=if add then m+n else m-n:=qF3 q1 q2 hvt h4 hle
 rw[hval] at hb
 simp only[STD,e0,wa,wb,e1,e2,and_self,e3,h1,qpg,hb]
theorem qAx(m n:Nat):(tN (m+n)).length≤max (tN m).length (tN n).length+1:=by
 have h1:=q84 (wg m)
 have h2:=q84 (wg n)
 rw[q0V] at h1 h2
 have p1:10^(tN m).length≤10^(max (tN m).length (tN n).length):=Nat.pow_le_pow_right (by omega) (by omega)
 have p2:10^(tN n).length≤10^(max (tN m).length (tN n).length):=Nat.pow_le_pow_right (by omega) (by omega)
 exact q7w _ _ (by rw[Nat.pow_succ];omega)
theorem qrP(m n:Nat):(tN (m*n)).length≤(tN m).length+(tN n).length:=by
 have h1:=q84 (wg m)
 have h2:=q84 (wg n)
 rw[q0V] at h1 h2
 have h3:=ql4 m
 have h4:=ql4 n
 have:m*n<10^((tN m).length+(tN n).length):=by
  rw[Nat.pow_add]
  exact Nat.mul_lt_mul'' h1 h2
 have:=q7w ((tN m).length+(tN n).length-1) (m*n) (by rwa [show (tN m).length+(tN n).length-1+1=(tN m).length+(tN n).length by omega])
 omega
def nl(m:Int):Nat:=(tN m.natAbs).length
theorem qsl(m:Int):0<nl m:=ql4 _
theorem qtG(m:Int):nl (-m)=nl m:=by unfold nl;rw[Int.natAbs_neg]
theorem quX(m n:Int):nl (m+n)≤max (nl m) (nl n)+1:=by
 unfold nl
 exact Nat.le_trans (kT (Int.natAbs_add_le m n)) (qAx _ _)
theorem yU(m n:Int):nl (m*n)≤nl m+nl n:=by
 unfold nl;rw[Int.natAbs_mul];exact qrP _ _
theorem qIB{m:Int}{k:Nat}(h:nl m≤k):m.natAbs<10^k:=q6K h
theorem qqf(m n:Int)(hm:nl m≤100000000-1)(hn:nl n≤100000000-1):(q3n [.s (tI m),.s (tI n)]).run=some (0,[.s (tI (m+n))]):=by
 rw[qwu]
 have hm':(tN m.natAbs).length≤100000000-1:=hm
 have hn':(tN n.natAbs).length≤100000000-1:=hn
 have lt:=quX m n
 by_cases hb:(tN m.natAbs).length≤18∧(tN n.natAbs).length≤18
 ·have b1:m.natAbs<1000000000000000000:=Nat.lt_of_lt_of_le (q6K hb.1) (by decide)
  have b2:n.natAbs<1000000000000000000:=Nat.lt_of_lt_of_le (q6K hb.2) (by decide)
  have e1:qk .i64 m n=m+n:=qO (by omega)
  have e2:=kK (m+n) (by omega) (by omega)
  clear b1 b2
  have hbr:=q7Q m n
  rw[if_pos hb] at hbr
  simp only[STD,hbr,e1,e2]
 ·have hbr:=q7Q m n
  rw[if_neg hb] at hbr
  have hP:=qaV m.natAbs n.natAbs true (by omega) (by omega) (fun h=>by cases h)
  simp only[↓reduceIte] at hP
  simp only[STD,hbr,wO,j2,qiI,decide_eq_decide,hP]
  have la:=qAx m.natAbs n.natAbs
  by_cases hs:(m<0)=(n<0)
  ·have hs':(m<0↔n<0):=by rw[hs]
   rw[if_pos hs']
   simp only[q0m _ _ (show (tN (m.natAbs+n.natAbs)).length≤100000000 by omega),STD]
   have e:(if m<0 then -((m.natAbs+n.natAbs:Nat):Int) else ((m.natAbs+n.natAbs:Nat):Int))=m+n:=by
    by_cases h:m<0
    ·rw[if_pos h];have:=hs'.1 h;omega
    ·rw[if_neg h];have:¬n<0:=fun q=>h (hs'.2 q);omega
   rw[e]
  ·have hs':¬(m<0↔n<0):=fun h=>hs (propext h)
   rw[if_neg hs']
   by_cases hlt:m.natAbs<n.natAbs
   ·have hP2:=qaV n.natAbs m.natAbs false (by omega) (by omega) (fun _=>by omega)
    simp only[Bool.false_eq_true,↓reduceIte] at hP2
    have ls:(tN (n.natAbs-m.natAbs)).length≤100000000:=Nat.le_trans (kT (Nat.sub_le _ _)) (by omega)
    simp only[STD,hlt,hP2,q0m _ _ ls]
    have e:(if n<0 then -((n.natAbs-m.natAbs:Nat):Int) else ((n.natAbs-m.natAbs:Nat):Int))=m+n:=by
     by_cases h:n<0
     ·rw[if_pos h];have:¬m<0:=fun q=>hs' ⟨fun _=>h,fun _=>q⟩;omega
     ·rw[if_neg h];have:m<0:=by
       rcases Decidable.em (m<0) with q|q
       ·exact q
       ·exact absurd ⟨fun x=>absurd x q,fun x=>absurd x h⟩ hs'
      omega
    rw[e]
   ·have hP2:=qaV m.natAbs n.natAbs false (by omega) (by omega) (fun _=>by omega)
    simp only[Bool.false_eq_true,↓reduceIte] at hP2
    have ls:(tN (m.natAbs-n.natAbs)).length≤100000000:=Nat.le_trans (kT (Nat.sub_le _ _)) (by omega)
    simp only[STD,hlt,hP2,q0m _ _ ls]
    have e:(if m<0 then -((m.natAbs-n.natAbs:Nat):Int) else ((m.natAbs-n.natAbs:Nat):Int))=m+n:=by
     by_cases h:m<0
     ·rw[if_pos h];have:¬n<0:=fun q=>hs' ⟨fun _=>q,fun _=>h⟩;omega
     ·rw[if_neg h];have:n<0:=by
       rcases Decidable.em (n<0) with q|q
       ·exact q
       ·exact absurd ⟨fun x=>absurd x h,fun x=>absurd x q⟩ hs'
      omega
    rw[e]
theorem qbj(m n:Int)(hm:nl m≤100000000-1)(hn:nl n≤100000000-1):(vz [.s (tI m),.s (tI n)]).run=some (0,[.s (tI (m-n))]):=by
 rw[qtI]
 have ht:=qe6 n (by have:(tN n.natAbs).length≤100000000-1:=hn;omega)
 have hp:=qqf m (-n) hm (by rw[qtG];exact hn)
 rw[←Int.sub_eq_add_neg] at hp
 simp only[STD,ht,hp]
def sgn(n:Int):Int:=if n<0 then -1 else if n=0 then 0 else 1
theorem qgW(m n:Int)(hm:nl m≤100000000-1)(hn:nl n≤100000000-1):(ua [.s (tI m),.s (tI n)]).run=some (0,[.i (sgn (m-n))]):=by
 rw[qtQ]
 have h0:(tI (m-n)=[48])=(m-n=0):=by
  have:tI 0=[48]:=rfl
  rw[←this];exact propext ⟨fun h=>qyB h,fun h=>by rw[h]⟩
 simp only[STD,qbj m n hm hn,qY,h0,j2]
 unfold sgn
 by_cases h1:m-n=0
 ·rw[if_pos h1,if_neg (by omega),if_pos h1]
 ·rw[if_neg h1]
  by_cases h2:m-n<0
  ·rw[if_pos h2,if_pos h2]
  ·rw[if_neg h2,if_neg h2,if_neg h1]
end Go.Eng

namespace Go.Eng
def wv(l:List Int):Int:=l.foldl (fun a x=>10*a+x) 0
theorem qxk:∀(t:List Int) (a:Int),t.foldl (fun a x=>10*a+x) a=a*10^t.length+wv t
 | [],a=>by simp[wv]
 | c::t,a=>by
  have h1:=qxk t (10*a+c)
  have h2:=qxk t (10*0+c)
  have h3:wv (c::t)=t.foldl (fun a x=>10*a+x) (10*0+c):=rfl
  rw[h3,h2,List.foldl_cons,h1,List.length_cons,Int.pow_succ]
  grind
theorem qpu(c:Int)(t:List Int):wv (c::t)=c*10^t.length+wv t:=by
 have h3:wv (c::t)=t.foldl (fun a x=>10*a+x) (10*0+c):=rfl
 rw[h3,qxk];grind
theorem qIG:wv []=0:=rfl
theorem qGg(n:Nat):wv (List.replicate n 0)=0:=by
 induction n with
 | zero=>rfl
 | succ n ih=>rw[List.replicate_succ,qpu,ih];simp
theorem qGM:∀(l:List Int) (j:Nat) (hj:j<l.length) (y:Int),wv (l.set j y)=wv l+(y-l[j])*10^(l.length-(j+1))
 | [],j,hj,y=>by simp at hj
 | c::t,0,hj,y=>by
  rw[List.set_cons_zero,qpu,qpu]
  simp only[List.getElem_cons_zero,List.length_cons,Nat.add_sub_cancel,Nat.zero_add]
  grind
 | c::t,j+1,hj,y=>by
  have hj':j<t.length:=by simpa using hj
  rw[List.set_cons_succ,qpu,qpu,qGM t j hj' y,List.length_set]
  simp only[List.getElem_cons_succ,List.length_cons]
  rw[show t.length+1-(j+1+1)=t.length-(j+1) by omega]
  grind
theorem qH4{l:List Int}{k:Nat}(h:k<l.length):wv (l.drop k)=l[k]*10^(l.length-(k+1))+wv (l.drop (k+1)):=by
 rw[List.drop_eq_getElem_cons h,qpu,List.length_drop]
theorem jB{l:List Int}{j:Nat}(h:j<l.length):l.getD j 0=l[j]:=by simp[List.getD_eq_getElem?_getD,h]
theorem qry{n i:Nat}(h:i<n):(10:Int)^(n-i)=10^(n-(i+1))*10:=by
 rw[←Int.pow_succ];congr 1;omega
theorem qDc{V A Q B:Int}:V*(Q*10)*B+A*B*Q=(10*V+A)*Q*B:=by grind
theorem qHd{P Q A V y:Int}:A*(10*V+y)*P*Q=A*V*(P*10)*Q+A*y*(P*Q):=by grind
theorem qwS{l:List Int}{j:Nat}{y B:Int}(h:∀x,x∈l→0≤x∧x≤B)(hy:0≤y∧y≤B):∀x,x∈l.set j y→0≤x∧x≤B:=by
 intro x hx
 rcases List.mem_or_eq_of_mem_set hx with h1|h1
 ·exact h x h1
 ·rw[h1];exact hy
theorem qCY{a b:List UInt8}(ha:q6C a)(hb:q6C b){i:Nat}(hi:i<a.length)(hla:a.length≤1000000)(hlb:b.length≤1000000){cols:List Int}(hc:cols.length=a.length+b.length){C:Nat}(hC:C≤1000000000000)
  (hB:∀x,x∈cols→0≤x∧x≤81*(C:Int)) :
  ∃cols':List Int,(qf uJ [.s a,.s b,.i (i:Int),.i 0,.r (rI cols)]).run=some (0,[.s a,.s b,.i (i:Int),.r (rI cols')])∧cols'.length=a.length+b.length ∧
   (∀x,x∈cols'→0≤x∧x≤81*((C+b.length:Nat):Int))∧wv cols'=wv cols+(dv a[i]:Int)*(val b:Int)*10^(a.length-(i+1)):=by
 obtain⟨j,qs,h1,h2⟩:=vZ (S:=uJ) (fun K ps=>∃(k:Nat) (cs:List Int),K+k=b.length∧ps=[.s a,.s b,.i (i:Int),.i (k:Int),.r (rI cs)]∧cs.length=a.length+b.length ∧
   (∀x,x∈cs→0≤x∧x≤81*((C+k:Nat):Int))∧wv cs=wv cols+(dv a[i]:Int)*(val (b.take k):Int)*10^(b.length-k)*10^(a.length-(i+1)))
  (fun j qs=>j=0∧∃cs:List Int,qs=[.s a,.s b,.i (i:Int),.r (rI cs)]∧cs.length=a.length+b.length ∧
   (∀x,x∈cs→0≤x∧x≤81*((C+b.length:Nat):Int))∧wv cs=wv cols+(dv a[i]:Int)*(val b:Int)*10^(a.length-(i+1))) (n:=b.length) (by omega) (fun K ps hK ⟨k,cs,hkK,hps,hlen,hbd,hw⟩=>by
  subst hps
  rw[qnl]
  cases K with
  | zero=>
   right
   obtain rfl:k=b.length:=by omega
   have:¬(b.length:Int)<qt b:=by unfold qt;omega
   refine⟨0,[.s a,.s b,.i (i:Int),.r (rI cs)],?_,rfl,cs,rfl,hlen,hbd,?_⟩
   ·simp only[STD,this]
   ·rw[hw,List.take_length,Nat.sub_self];grind
  | succ K=>
   left
   have hk:k<b.length:=by omega
   have g1:(k:Int)<qt b:=by unfold qt;omega
   have g2:(i:Int)<qt a:=by unfold qt;omega
   have e1:qk .i64 (qk .i64 (i:Int) (k:Int)) 1=((i+k+1:Nat):Int):=by
    rw[qO (x:=(i:Int)) (by omega),qO (by omega)];omega
   have hj:i+k+1<cs.length:=by omega
   have g3:((i+k+1:Nat):Int)<qh (rI cs):=by rw[qnU];omega
   obtain⟨da,la⟩:=qA9 ha hi
   obtain⟨db,lb⟩:=qA9 hb hk
   have hx:=hbd _ (List.getElem_mem hj)
   have hmul:dv a[i]*dv b[k]≤9*9:=Nat.mul_le_mul (by omega) (by omega)
   have e2:ux .i64 (dv a[i]:Int) (dv b[k]:Int)=((dv a[i]*dv b[k]:Nat):Int):=by
    rw[q2L (by rw[←Int.natCast_mul];omega)];simp
   have e3:qk .i64 cs[i+k+1] ((dv a[i]*dv b[k]:Nat):Int)=cs[i+k+1]+((dv a[i]*dv b[k]:Nat):Int):=qO (by omega)
   have e4:=kd hk (by omega)
   refine⟨K,[.s a,.s b,.i (i:Int),.i ((k+1:Nat):Int),.r (rI (cs.set (i+k+1) (cs[i+k+1]+((dv a[i]*dv b[k]:Nat):Int))))],by omega,?_,k+1,_,by omega,rfl,by simpa using hlen,?_,?_⟩
   ·simp only[STD,g1,g2,kq,and_self,e1,g3,da,db,e2,qHC,Int.toNat_natCast,jB hj,e3,e4,qym]
   ·refine qwS (fun x hx=>?_) ?_
    ·have:=hbd x hx;omega
    ·omega
   ·rw[qGM _ _ hj,hw,qb1 hk,hlen]
    have p1:=qry hk
    have p2:(10:Int)^(a.length+b.length-(i+k+1+1))=10^(b.length-(k+1))*10^(a.length-(i+1)):=by
     rw[←Int.pow_add];congr 1;omega
    rw[p1,p2]
    generalize (10:Int)^(b.length-(k+1))=P
    generalize (10:Int)^(a.length-(i+1))=Q
    simp only[Int.natCast_add,Int.natCast_mul]
    generalize (dv a[i]:Int)=A
    generalize (dv b[k]:Int)=y
    generalize (val (b.take k):Int)=V
    generalize cs[i+k+1]=c
    have:=qHd (P:=P) (Q:=Q) (A:=A) (V:=V) (y:=y)
    grind) (ps:=[.s a,.s b,.i (i:Int),.i 0,.r (rI cols)]) ⟨0,cols,by omega,rfl,hc,by simpa using hB,by simp[qgF]⟩
 obtain⟨rfl,cs,rfl,h3,h4,h5⟩:=h2
 exact⟨cs,h1,h3,h4,h5⟩
theorem qCM{a b:List UInt8}(ha:q6C a)(hb:q6C b)(hla:a.length≤1000000)(hlb:b.length≤1000000) :
  ∃cols:List Int,(qf uK [.s a,.s b,.i 0,.r (rI (List.replicate (a.length+b.length) 0))]).run=some (0,[.r (rI cols)])∧cols.length=a.length+b.length ∧
   (∀x,x∈cols→0≤x∧x≤81000000000000)∧wv cols=(val a:Int)*(val b:Int):=by
 have hsq:∀i,i≤a.length→i*b.length≤1000000000000:=fun i hi=>by
  have:=Nat.mul_le_mul (show i≤1000000 by omega) hlb;omega
 obtain⟨j,qs,h1,h2⟩:=vZ (S:=uK) (fun K ps=>∃(i:Nat) (cs:List Int),K+i=a.length∧ps=[.s a,.s b,.i (i:Int),.r (rI cs)]∧cs.length=a.length+b.length ∧
   (∀x,x∈cs→0≤x∧x≤81*((i*b.length:Nat):Int))∧wv cs=(val (a.take i):Int)*10^(a.length-i)*(val b:Int))
  (fun j qs=>j=0∧∃cs:List Int,qs=[.r (rI cs)]∧cs.length=a.length+b.length∧(∀x,x∈cs→0≤x∧x≤81000000000000)∧wv cs=(val a:Int)*(val b:Int)) (n:=a.length) (by omega) (fun K ps hK ⟨i,cs,hiK,hps,hlen,hbd,hw⟩=>by
  subst hps
  rw[qmt]
  have hs:=hsq i (by omega)
  cases K with
  | zero=>
   right
   obtain rfl:i=a.length:=by omega
   have:¬(a.length:Int)<qt a:=by unfold qt;omega
   refine⟨0,[.r (rI cs)],?_,rfl,cs,rfl,hlen,fun x hx=>?_,?_⟩
   ·simp only[STD,this]
   ·have:=hbd x hx;omega
   ·rw[hw,List.take_length,Nat.sub_self];grind
  | succ K=>
   left
   have hi:i<a.length:=by omega
   have g1:(i:Int)<qt a:=by unfold qt;omega
   obtain⟨cs',q1,q2,q3,q4⟩:=qCY ha hb hi hla hlb hlen (C:=i*b.length) hs hbd
   have e4:=kd hi (by omega)
   refine⟨K,[.s a,.s b,.i ((i+1:Nat):Int),.r (rI cs')],by omega,?_,i+1,cs',by omega,rfl,q2,?_,?_⟩
   ·simp only[STD,g1,q1,e4]
   ·rw[Nat.add_mul,Nat.one_mul];exact q3
   ·rw[q4,hw,qb1 hi]
    rw[qry hi,Int.natCast_add,Int.natCast_mul]
    exact qDc) (ps:=[.s a,.s b,.i 0,.r (rI (List.replicate (a.length+b.length) 0))]) ⟨0,List.replicate (a.length+b.length) 0,by omega,rfl,by simp,fun x hx=>by rw[(List.mem_replicate.1 hx).2];omega,by rw[qGg];simp[qgF]⟩
 obtain⟨rfl,cs,rfl,h3,h4,h5⟩:=h2
 exact⟨cs,h1,h3,h4,h5⟩
theorem qCd{cols:List Int}{N:Nat}(hl:cols.length=N)(hN:N≤2000000)(hB:∀x,x∈cols→0≤x∧x≤81000000000000) :
  ∃(t:List UInt8) (c:Nat),(qf yC [.i 0,.i ((N:Int)-1),.r (rI cols),.r (rI (List.replicate N 0))]).run=some (0,[.r (rI (t.map fun c=>(c.toNat:Int)))])∧q6C t∧t.length=N∧wv cols=(val t:Int)+(c:Int)*10^N:=by
 obtain⟨j,qs,h1,h2⟩:=vZ (S:=yC) (fun K ps=>∃(t:List UInt8) (c:Nat),ps=[.i (c:Int),.i ((K:Int)-1),.r (rI cols),.r (rI (List.replicate K 0++t.map fun c=>(c.toNat:Int)))]∧c≤81000000000000∧q6C t∧K+t.length=N ∧
   wv (cols.drop K)=(val t:Int)+(c:Int)*10^(N-K))
  (fun j qs=>j=0∧∃(t:List UInt8) (c:Nat),qs=[.r (rI (t.map fun c=>(c.toNat:Int)))]∧q6C t∧t.length=N∧wv cols=(val t:Int)+(c:Int)*10^N) (n:=N) (by omega) (fun K ps hK ⟨t,c,hps,hc,hdt,hlt,hrel⟩=>by
  subst hps
  rw[qlu]
  cases K with
  | zero=>
   right
   have:¬(0:Int)≤((0:Nat):Int)-1:=by omega
   refine⟨0,[.r (rI (t.map fun c=>(c.toNat:Int)))],?_,rfl,t,c,rfl,hdt,by omega,by simpa using hrel⟩
   simp only[STD,this,List.replicate_zero,List.nil_append]
  | succ K=>
   left
   have e0:((K+1:Nat):Int)-1=(K:Int):=by omega
   rw[e0]
   have hk:K<cols.length:=by omega
   obtain⟨x,hx⟩:∃x:Nat,cols[K]=(x:Int)∧x≤81000000000000:=by
    have:=hB _ (List.getElem_mem hk)
    exact⟨cols[K].toNat,by omega,by omega⟩
   have e1:qk .i64 (c:Int) (x:Int)=((c+x:Nat):Int):=by rw[qO (by omega)];omega
   have e2:yi .i64 ((c+x:Nat):Int) 10=(((c+x)/10:Nat):Int):=qwX (b:=10) (by omega)
   have e3:q83 ((c+x:Nat):Int) 10=(((c+x)%10:Nat):Int):=qr2 _ 10
   have e4:we .u8 (qk .i64 48 (((c+x)%10:Nat):Int))=((dch ((c+x)%10)).toNat:Int):=by
    rw[qO (by omega),qvp (by omega),q3l (by omega)];omega
   have h3:(K:Int)<qh (rI cols):=by rw[qnU];omega
   have h5:(K:Int)<qh (rI (List.replicate (K+1) 0++t.map fun c=>(c.toNat:Int))):=by rw[qnU];simp;omega
   have h6:(List.replicate (K+1) (0:Int)++t.map fun c=>(c.toNat:Int)).set K ((dch ((c+x)%10)).toNat:Int)=List.replicate K 0++(dch ((c+x)%10)::t).map fun c=>(c.toNat:Int):=by
    rw[List.replicate_succ',List.append_assoc,List.set_append_right _ _ (by simp),List.length_replicate,Nat.sub_self];rfl
   have h7:qA .i64 (K:Int) 1=(K:Int)-1:=wA (by omega)
   refine⟨K,[.i (((c+x)/10:Nat):Int),.i ((K:Int)-1),.r (rI cols),.r (rI (List.replicate K 0++(dch ((c+x)%10)::t).map fun c=>(c.toNat:Int)))],by omega,?_,_,_,rfl,by omega,q0Q.2 ⟨by rw[q3l (by omega)];omega,hdt⟩,by simp;omega,?_⟩
   ·simp only[STD,kq,h3,h5,and_self,qHC,Int.toNat_natCast,jB hk,hx.1,e1,e2,e3,e4,qym,h6,h7]
   ·rw[qH4 hk,hrel,q6U,hx.1,hl,qq8 (by omega),show t.length=N-(K+1) by omega]
    rw[qry (show K<N by omega)]
    have e:((c+x:Nat):Int)=10*(((c+x)/10:Nat):Int)+(((c+x)%10:Nat):Int):=by omega
    simp only[Int.natCast_add,Int.natCast_mul,Int.natCast_pow] at e ⊢
    generalize hP:(10:Int)^(N-(K+1))=P at *
    generalize (((c+x)/10:Nat):Int)=q at *
    generalize (((c+x)%10:Nat):Int)=r at *
    have:(c:Int)=10*q+r-x:=by omega
    rw[this];grind) (ps:=[.i 0,.i ((N:Int)-1),.r (rI cols),.r (rI (List.replicate N 0))]) ⟨[],0,by simp,by omega,qmw,by simp,by
    rw[List.drop_eq_nil_of_le (by omega)];simp[qgF,qIG]⟩
 obtain⟨rfl,t,c,rfl,h3,h4,h5⟩:=h2
 exact⟨t,c,h1,h3,h4,h5⟩
theorem qto(m n:Nat)(hm:(tN m).length≤1000000)(hn:(tN n).length≤1000000):(q13 [.s (tN m),.s (tN n)]).run=some (0,[.s (tN (m*n))]):=by
 rw[qqw]
 obtain⟨cols,c1,c2,c3,c4⟩:=qCM (wg m) (wg n) hm hn
 obtain⟨N,hN⟩:∃N,N=(tN m).length+(tN n).length:=⟨_,rfl⟩
 have hp:=ql4 m
 rw[←hN] at c1 c2
 obtain⟨t,c,t1,t2,t3,t4⟩:=qCd c2 (by omega) c3
 have ht:t≠[]:=by intro h;subst h;simp at t3;omega
 have hb:=qdj t2 ht (by omega)
 have e0:qk .i64 (qt (tN m)) (qt (tN n))=(N:Int):=by unfold qt;rw[qO (by omega)];omega
 have e1:(0:Int)≤(N:Int)∧(N:Int)≤17592186044416:=by omega
 have e1':(0:Int)≤(N:Int)∧(N:Int)≤140737488355328:=by omega
 have e2:q4U (N:Int) [.i 0]=rI (List.replicate N 0):=by rw[qm8];rfl
 have e3:qh (rI cols)=(N:Int):=by rw[qnU,c2]
 have e4:qA .i64 (N:Int) 1=(N:Int)-1:=wA (by omega)
 have hval:val t=m*n:=by
  have v1:=q84 (wg m)
  have v2:=q84 (wg n)
  have v3:=q84 t2
  rw[t3] at v3
  rw[c4,q0V,q0V] at t4
  rw[q0V] at v1 v2
  have v4:m*n<10^N:=by rw[hN,Nat.pow_add];exact Nat.mul_lt_mul'' v1 v2
  have t5:m*n=val t+c*10^N:=by
   have:((m*n:Nat):Int)=((val t+c*10^N:Nat):Int):=by simpa using t4
   omega
  clear t4 c4 v1 v2
  generalize 10^N=P at *
  rcases Nat.eq_zero_or_pos c with h|h
  ·subst h;omega
  ·have:=Nat.mul_le_mul_right P h;omega
 rw[hval] at hb
 simp only[STD,e0,e1,e1',and_self,e2,c1,e3,e4,t1,qpg,hb]
theorem qnQ(m n:Int)(hm:nl m≤1000000)(hn:nl n≤1000000):(wz [.s (tI m),.s (tI n)]).run=some (0,[.s (tI (m*n))]):=by
 rw[qup]
 have hm':(tN m.natAbs).length≤1000000:=hm
 have hn':(tN n.natAbs).length≤1000000:=hn
 have hbr:=q7Q m n
 have hP:=qto m.natAbs n.natAbs hm' hn'
 have lm:=qrP m.natAbs n.natAbs
 have hS:=fun b=>q0m (m.natAbs*n.natAbs) b (by omega)
 have tm:=qyV m
 have tn:=qyV n
 have e0:qk .i64 (qt (tI m)) (qt (tI n))=(((tI m).length+(tI n).length:Nat):Int):=by unfold qt;rw[qO (by omega)];omega
 have sg:(if (¬((m<0)=(n<0))) then -((m.natAbs*n.natAbs:Nat):Int) else ((m.natAbs*n.natAbs:Nat):Int))=m*n:=by
  by_cases h1:m<0<;>by_cases h2:n<0
  ·simp only[h1,h2,not_true_eq_false,if_false]
   rw[Int.natCast_mul,show (m.natAbs:Int)=-m by omega,show (n.natAbs:Int)=-n by omega];grind
  ·simp only[h1,h2]
   rw[if_pos (by simp),Int.natCast_mul,show (m.natAbs:Int)=-m by omega,show (n.natAbs:Int)=n by omega];grind
  ·simp only[h1,h2]
   rw[if_pos (by simp),Int.natCast_mul,show (m.natAbs:Int)=m by omega,show (n.natAbs:Int)=-n by omega];grind
  ·simp only[h1,h2,not_true_eq_false,if_false]
   rw[Int.natCast_mul,show (m.natAbs:Int)=m by omega,show (n.natAbs:Int)=n by omega]
 by_cases hb:(tN m.natAbs).length≤18∧(tN n.natAbs).length≤18
 ·rw[if_pos hb] at hbr
  by_cases h18:(tI m).length+(tI n).length≤18
  ·have h18':(((tI m).length+(tI n).length:Nat):Int)≤18:=by omega
   have lmn:(tN (m*n).natAbs).length≤18:=by
    rw[Int.natAbs_mul]
    have h3:∀q:Int,(tN q.natAbs).length≤(tI q).length:=fun q=>by unfold tI;split<;>simp
    have:=h3 m;have:=h3 n;omega
   have b1:(m*n).natAbs<1000000000000000000:=Nat.lt_of_lt_of_le (q6K lmn) (by decide)
   have e1:ux .i64 m n=m*n:=q2L (by omega)
   have e2:=kK (m*n) (by omega) (by omega)
   clear b1
   simp only[STD,hbr,e0,h18',e1,e2]
  ·have h18':¬(((tI m).length+(tI n).length:Nat):Int)≤18:=by omega
   simp only[STD,hbr,e0,h18',wO,hP,j2,hS,decide_eq_decide]
   rw[←sg];simp only[eq_iff_iff]
 ·rw[if_neg hb] at hbr
  simp only[STD,hbr,wO,hP,j2,hS,decide_eq_decide]
  rw[←sg];simp only[eq_iff_iff]
end Go.Eng

namespace Go.Eng
theorem qIE{x:Int}(h:0≤x∧x≤254):qk .u8 x 1=x+1:=by
 unfold qk IntKind.wrap
 simp[IntKind.signed,IntKind.bits];omega
theorem qAd(a q:List UInt8)(i:Int){b x0:Nat}(hb:0<b)(hx:x0<10*b)(lb:(tN b).length≤1000000)(lx:(tN x0).length≤1000002) :
  (qf yl [.s a,.s (tN b),.s q,.s (tN x0),.i i,.i 48]).run=some (0,[.s a,.s (tN b),.s q,.s (tN (x0%b)),.i i,.i (48+((x0/b:Nat):Int))]):=by
 obtain⟨j,qs,h1,h2⟩:=vZ (S:=yl) (fun k ps=>∃x c:Nat,ps=[.s a,.s (tN b),.s q,.s (tN x),.i i,.i (48+(c:Int))]∧x+c*b=x0∧c+k=10∧c≤9)
  (fun j qs=>j=0∧qs=[.s a,.s (tN b),.s q,.s (tN (x0%b)),.i i,.i (48+((x0/b:Nat):Int))]) (n:=10) (by omega) (fun k ps hk ⟨x,c,hps,he,hck,hc⟩=>by
  subst hps
  rw[qmn]
  have hxl:x≤x0:=by rw[←he];exact Nat.le_add_right _ _
  have hP:=qaV x b false (by have:=kT hxl;omega) (by omega)
  by_cases hlt:x<b
  ·right
   refine⟨0,[.s a,.s (tN b),.s q,.s (tN x),.i i,.i (48+(c:Int))],?_,rfl,?_⟩
   ·simp only[STD,qiI,hlt,decide_true]
   ·have e1:x0/b=c:=by rw[←he,Nat.add_mul_div_right _ _ hb,Nat.div_eq_of_lt hlt,Nat.zero_add]
    have e2:x0%b=x:=by rw[←he,Nat.add_mul_mod_self_right,Nat.mod_eq_of_lt hlt]
    rw[e1,e2]
  ·left
   have hge:b≤x:=by omega
   have hP:=hP (fun _=>hge)
   simp only[Bool.false_eq_true,↓reduceIte] at hP
   have hc9:c+1<10:=by
    apply Nat.lt_of_mul_lt_mul_right (a:=b)
    have:(c+1)*b=c*b+b:=Nat.succ_mul c b
    omega
   refine⟨k-1,[.s a,.s (tN b),.s q,.s (tN (x-b)),.i i,.i (48+((c+1:Nat):Int))],by omega,?_,x-b,c+1,rfl,?_,by omega,by omega⟩
   ·simp only[STD,qiI,hlt,decide_false,hP,qIE (show (0:Int)≤48+(c:Int)∧48+(c:Int)≤254 by omega)]
    rw[show (48+(c:Int)+1)=48+((c+1:Nat):Int) by omega]
   ·have:(c+1)*b=c*b+b:=Nat.succ_mul c b
    omega) (ps:=[.s a,.s (tN b),.s q,.s (tN x0),.i i,.i 48]) ⟨x0,0,by simp,by simp,by omega,by omega⟩
 obtain⟨rfl,rfl⟩:=h2
 exact h1
theorem qGi{s:List UInt8}{i:Nat}(h:i<s.length):qds s (i:Int) (((i+1:Nat):Int))=[s[i]]:=by
 unfold qds
 simp only[Int.toNat_natCast]
 rw[List.take_succ_eq_append_getElem h,List.drop_append_of_le_length (by simp;omega)]
 rw[List.drop_of_length_le (by simp;omega)];rfl
theorem qrh{m n:Nat}(hn:0<n)(lm:(tN m).length≤1000000)(ln:(tN n).length≤1000000) :
  (q3S [.s (tN m),.s (tN n)]).run=some (0,[.s (tN (m/n)),.s (tN (m%n))]):=by
 rw[qqr]
 have hdm:=wg m
 obtain⟨j,qs,h1,rfl,q,h2,h3,h4,h5⟩:=vZ (S:=q1x) (fun k ps=>∃(i r:Nat) (q:List UInt8),ps=[.s (tN m),.s (tN n),.s q,.s (tN r),.i (i:Int)]∧i+k=(tN m).length∧q.length=i∧q6C q∧val q*n+r=val ((tN m).take i)∧r<n)
  (fun j qs=>j=0∧∃q:List UInt8,qs=[.s q,.s (tN (m%n))]∧q.length=(tN m).length∧q6C q∧val q=m/n) (n:=(tN m).length) (by omega) (fun k ps hk ⟨i,r,q,hps,hik,hql,hdq,hv,hr⟩=>by
  subst hps
  rw[qnF]
  by_cases hi:i<(tN m).length
  ·left
   have hc:=qjI hdm hi
   have hw:qk .i64 (i:Int) 1=((i+1:Nat):Int):=by rw[qO (by omega)];omega
   have hlr:(tN r).length≤(tN n).length:=kT (by omega)
   have hd10:=qCc hc
   have hB:=qdj (s:=tN r++[(tN m)[i]]) (q8X.2 ⟨wg r,fun c hcc=>by simp at hcc;subst hcc;exact hc⟩) (by simp) (by simp;omega)
   rw[qnV,q0V] at hB
   have lx:(tN (10*r+dv (tN m)[i])).length≤1000002:=by
    have h10:10*r+dv (tN m)[i]≤10*n:=by omega
    have e10:(tN (10*n)).length≤(tN 10).length+(tN n).length:=qrP 10 n
    have e11:(tN 10).length=2:=by decide
    have:=kT h10
    omega
   have hI:=qAd (tN m) q (i:Int) hn (x0:=10*r+dv (tN m)[i]) (by omega) ln lx
   have hq10:(10*r+dv (tN m)[i])/n<10:=by
    rw[Nat.div_lt_iff_lt_mul hn];omega
   have hd1:(i:Int)<qt (tN m):=by unfold qt;omega
   have hd2:((i+1:Nat):Int)≤qt (tN m):=by unfold qt;omega
   have hrs:qkh [[.i (48+(((10*r+dv (tN m)[i])/n:Nat):Int))]]=[dch ((10*r+dv (tN m)[i])/n)]:=by
    simp only[qkh,List.map_cons,List.map_nil,List.getD_cons_zero,U.toI,dch]
    congr 2
   have hl1:qt (tN r)+qt [(tN m)[i]]≤140737488355328:=by unfold qt;simp;omega
   have hl2:qt q+qt [dch ((10*r+dv (tN m)[i])/n)]≤140737488355328:=by unfold qt;simp;omega
   refine⟨k-1,[.s (tN m),.s (tN n),.s (q++[dch ((10*r+dv (tN m)[i])/n)]),.s (tN ((10*r+dv (tN m)[i])%n)),.i ((i+1:Nat):Int)],by omega,?_,i+1,_,_,rfl,by omega,by simp[hql],?_,?_,Nat.mod_lt _ hn⟩
   ·simp only[STD,hw,hd1,hd2,qGi hi,hl1,qeY,hB,hI,hrs,hl2,show (0:Int)≤(i:Int) by omega,show (0:Int)≤((i+1:Nat):Int) by omega,show (i:Int)≤((i+1:Nat):Int) by omega,and_self]
   ·exact q8X.2 ⟨hdq,qw5 hq10⟩
   ·rw[qnV,qq8 hq10,qb1 hi,←hv]
    have hdm:=Nat.div_add_mod (10*r+dv (tN m)[i]) n
    generalize (10*r+dv (tN m)[i])/n=c at *
    generalize (10*r+dv (tN m)[i])%n=e at *
    have e1:(10*val q+c)*n=10*(val q*n)+n*c:=by rw[Nat.add_mul,Nat.mul_assoc,Nat.mul_comm c n]
    omega
  ·right
   have hie:i=(tN m).length:=by omega
   have hd1:¬((i:Int)<qt (tN m)):=by unfold qt;omega
   rw[hie,List.take_length,q0V] at hv
   have e1:m/n=val q:=by rw[←hv,Nat.add_comm,Nat.add_mul_div_right _ _ hn,Nat.div_eq_of_lt hr,Nat.zero_add]
   have e2:m%n=r:=by rw[←hv,Nat.add_comm,Nat.add_mul_mod_self_right,Nat.mod_eq_of_lt hr]
   refine⟨0,[.s q,.s (tN r)],?_,rfl,q,by rw[e2],by omega,hdq,e1.symm⟩
   simp only[STD,hd1]) (ps:=[.s (tN m),.s (tN n),.s [],.s [48],.i 0]) ⟨0,0,[],rfl,by omega,rfl,qmw,by simp[qgF],hn⟩
 subst h2
 have hB:=qdj (s:=q) h4 (by intro h;subst h;have:=ql4 m;simp at h3;omega) (by omega)
 rw[h5] at hB
 simp only[STD,h1,hB]
def fq(m n:Int):Int:=if 0<n then m/n else (-m)/(-n)
theorem qpe{m n q:Int}(h:(0<n∧q*n≤m∧m<q*n+n)∨(n<0∧q*n+n<m∧m≤q*n)):fq m n=q:=by
 unfold fq
 rcases h with⟨h0,h1,h2⟩|⟨h0,h1,h2⟩
 ·rw[if_pos h0]
  exact((Int.ediv_emod_unique (r:=m-q*n) h0).2 ⟨by rw[Int.mul_comm];omega,by omega,by omega⟩).1
 ·rw[if_neg (by omega)]
  have e:-n*q=-(q*n):=by rw[Int.neg_mul,Int.mul_comm]
  exact((Int.ediv_emod_unique (r:=q*n-m) (show 0 < -n by omega)).2 ⟨by omega,by omega,by omega⟩).1
theorem qr7{n q:Int}(h:n≠0):fq (q*n) n=q:=by
 apply qpe
 rcases Int.lt_or_lt_of_ne h with h|h
 ·exact .inr ⟨h,by omega,by omega⟩
 ·exact .inl ⟨h,by omega,by omega⟩
theorem qJb(m:Int){n:Int}(_:n≠0):(fq m n).natAbs≤m.natAbs+1:=by
 unfold fq
 split
 ·have:=Int.natAbs_ediv_le_natAbs m n;omega
 ·have:=Int.natAbs_ediv_le_natAbs (-m) (-n);omega
theorem qoJ(m:Int){n:Int}(hn:n≠0):n*m.tdiv n+q83 m n=m∧(q83 m n).natAbs<n.natAbs∧(0≤m→0≤q83 m n)∧(m≤0→q83 m n≤0):=by
 unfold q83
 refine⟨Int.mul_tdiv_add_tmod m n,?_,fun h=>Int.tmod_nonneg n h,fun h=>?_⟩
 ·rw[Int.natAbs_tmod]
  exact Nat.mod_lt _ (by omega)
 ·have:=Int.tmod_nonneg n (show 0≤-m by omega)
  rw[Int.neg_tmod] at this
  omega
end Go.Eng

namespace Go.Eng
theorem qFW{m:Int}(h:(tN m.natAbs).length≤18):m.natAbs<1000000000000000000:=Nat.lt_of_lt_of_le (q6K h) (by decide)
theorem qjK{n t:Int}(hn:n≠0)(h:-9223372036854775808≤t∧t≤9223372036854775807):yi .i64 (n*t) n=t:=by
 unfold yi
 rw[Int.mul_tdiv_cancel_left _ hn]
 unfold IntKind.wrap
 simp[IntKind.signed,IntKind.bits];omega
theorem qH6(m:Int)(n:Int):(m.tdiv n).natAbs≤m.natAbs:=by
 rw[Int.natAbs_tdiv];exact Nat.div_le_self _ _
theorem qFz{m n:Int}(hn:n≠0) :
  (q83 m n≠0∧¬((q83 m n<0)=(n<0))→fq m n=m.tdiv n-1∧m-fq m n*n=q83 m n+n)∧(¬(q83 m n≠0∧¬((q83 m n<0)=(n<0)))→fq m n=m.tdiv n∧m-fq m n*n=q83 m n):=by
 obtain⟨h1,h2,h3,h4⟩:=qoJ m hn
 generalize m.tdiv n=t at *
 generalize q83 m n=r at *
 have e:n*t=t*n:=Int.mul_comm _ _
 have e2:(t-1)*n=t*n-n:=by rw[Int.sub_mul,Int.one_mul]
 constructor
 ·intro⟨c1,c2⟩
  have c3:¬(r<0↔n<0):=fun h=>c2 (propext h)
  have:fq m n=t-1:=by
   apply qpe
   rw[e2]
   rcases Int.lt_or_lt_of_ne hn with h|h
   ·have:¬r<0:=fun q=>c3 ⟨fun _=>h,fun _=>q⟩
    exact .inr ⟨h,by omega,by omega⟩
   ·have:r<0:=by
     rcases Decidable.em (r<0) with q|q
     ·exact q
     ·exact absurd ⟨fun x=>by omega,fun x=>by omega⟩ c3
    exact .inl ⟨h,by omega,by omega⟩
  rw[this,e2]
  exact⟨rfl,by omega⟩
 ·intro c
  have c':r=0∨(r<0↔n<0):=by
   rcases Decidable.em (r=0) with q|q
   ·exact .inl q
   ·right
    rcases Decidable.em (r<0↔n<0) with q2|q2
    ·exact q2
    ·exact absurd ⟨q,fun h=>q2 (by rw[h])⟩ c
  have:fq m n=t:=by
   apply qpe
   rcases Int.lt_or_lt_of_ne hn with h|h
   ·rcases c' with q|q
    ·exact .inr ⟨h,by omega,by omega⟩
    ·have:=q.2 h;exact .inr ⟨h,by omega,by omega⟩
   ·rcases c' with q|q
    ·exact .inl ⟨h,by omega,by omega⟩
    ·have:¬r<0:=fun x=>by have:=q.1 x;omega
     exact .inl ⟨h,by omega,by omega⟩
  rw[this]
  exact⟨rfl,by omega⟩
theorem qIN{m n:Int}(hn:n≠0) :
  (m.natAbs%n.natAbs≠0∧¬((m<0)=(n<0))→fq m n=-((m.natAbs/n.natAbs:Nat):Int)-1) ∧
  (¬(m.natAbs%n.natAbs≠0∧¬((m<0)=(n<0)))→fq m n=if ¬((m<0)=(n<0)) then -((m.natAbs/n.natAbs:Nat):Int) else ((m.natAbs/n.natAbs:Nat):Int)):=by
 have hd:=Nat.div_add_mod m.natAbs n.natAbs
 have hl:=Nat.mod_lt m.natAbs (show 0<n.natAbs by omega)
 generalize m.natAbs/n.natAbs=q at *
 generalize m.natAbs%n.natAbs=r at *
 have hq:((n.natAbs*q:Nat):Int)=(n.natAbs:Int)*(q:Int):=by simp
 have e1:n<0→(n.natAbs:Int)*(q:Int)=-((q:Int)*n):=fun h=>by rw[show (n.natAbs:Int)=-n by omega,Int.neg_mul,Int.mul_comm]
 have e2:0<n→(n.natAbs:Int)*(q:Int)=(q:Int)*n:=fun h=>by rw[show (n.natAbs:Int)=n by omega,Int.mul_comm]
 have e3:(-(q:Int)-1)*n=-((q:Int)*n)-n:=by rw[Int.sub_mul,Int.neg_mul,Int.one_mul]
 have e4:(-(q:Int))*n=-((q:Int)*n):=Int.neg_mul _ _
 constructor
 ·intro⟨c1,c2⟩
  have c3:¬(m<0↔n<0):=fun h=>c2 (propext h)
  apply qpe
  rw[e3]
  rcases Int.lt_or_lt_of_ne hn with h|h
  ·have:=e1 h
   have:¬m<0:=fun q=>c3 ⟨fun _=>h,fun _=>q⟩
   exact .inr ⟨h,by omega,by omega⟩
  ·have:=e2 h
   have:m<0:=by
    rcases Decidable.em (m<0) with q|q
    ·exact q
    ·exact absurd ⟨fun x=>by omega,fun x=>by omega⟩ c3
   exact .inl ⟨h,by omega,by omega⟩
 ·intro c
  by_cases c2:(m<0)=(n<0)
  ·rw[if_neg (by simpa using c2)]
   have c3:m<0↔n<0:=by rw[c2]
   apply qpe
   rcases Int.lt_or_lt_of_ne hn with h|h
   ·have:=e1 h
    have:=c3.2 h
    exact .inr ⟨h,by omega,by omega⟩
   ·have:=e2 h
    have:¬m<0:=fun x=>by have:=c3.1 x;omega
    exact .inl ⟨h,by omega,by omega⟩
  ·rw[if_pos c2]
   have hr:r=0:=by
    rcases Nat.eq_zero_or_pos r with h|h
    ·exact h
    ·exact absurd ⟨by omega,c2⟩ c
   have c3:¬(m<0↔n<0):=fun h=>c2 (propext h)
   apply qpe
   rw[e4]
   rcases Int.lt_or_lt_of_ne hn with h|h
   ·have:=e1 h
    have:¬m<0:=fun q=>c3 ⟨fun _=>h,fun _=>q⟩
    exact .inr ⟨h,by omega,by omega⟩
   ·have:=e2 h
    have:m≤0:=by
     rcases Decidable.em (m<0) with q|q
     ·omega
     ·exact absurd ⟨fun x=>by omega,fun x=>by omega⟩ c3
    exact .inl ⟨h,by omega,by omega⟩
theorem qEE:tI 1=[49]:=rfl
theorem q6a(n:Nat):(tN n=[48])=(n=0):=by
 rw[←qAv];exact propext ⟨fun h=>qvE h,fun h=>by rw[h]⟩
theorem qGf(m:Int){n:Int}(hn:n≠0):nl (fq m n)≤nl m+2:=by
 have h:=qJb m hn
 have h2:=kT h
 have h3:=qAx m.natAbs 1
 have h4:(tN 1).length=1:=rfl
 have:=ql4 m.natAbs
 unfold nl
 omega
theorem q5C(m n:Int)(hn0:n≠0)(hm:nl m≤400000)(hn:nl n≤400000):(wy [.s (tI m),.s (tI n)]).run=some (0,[.s (tI (fq m n)),.s (tI (m-fq m n*n))]):=by
 rw[qrH]
 have hbr:=q7Q m n
 by_cases hb:(tN m.natAbs).length≤18∧(tN n.natAbs).length≤18
 ·rw[if_pos hb] at hbr
  have b1:=qFW hb.1
  have b2:=qFW hb.2
  obtain⟨h1,h2,h3,h4⟩:=qoJ m hn0
  obtain⟨g1,g2⟩:=qFz (m:=m) hn0
  have ht:=qH6 m n
  by_cases c0:q83 m n=0
  ·obtain⟨e1,e2⟩:=g2 (fun h=>h.1 c0)
   rw[e2,e1]
   have w1:qA .i64 m (q83 m n)=n*m.tdiv n:=by rw[wA (by omega)];omega
   have w2:=qjK (t:=m.tdiv n) hn0 (by omega)
   have o1:=kK (m.tdiv n) (by omega) (by omega)
   have o2:=kK (q83 m n) (by omega) (by omega)
   simp only[STD,hbr,hn0,c0] at w1 o2 ⊢
   simp only[STD,w1,w2,o1,o2]
  ·by_cases c1:(q83 m n<0)=(n<0)
   ·obtain⟨e1,e2⟩:=g2 (fun h=>h.2 c1)
    rw[e2,e1]
    have w1:qA .i64 m (q83 m n)=n*m.tdiv n:=by rw[wA (by omega)];omega
    have w2:=qjK (t:=m.tdiv n) hn0 (by omega)
    have o1:=kK (m.tdiv n) (by omega) (by omega)
    have o2:=kK (q83 m n) (by omega) (by omega)
    have hbq:(ilt (q83 m n) 0=ilt n 0)=True:=by
     simp only[ilt,decide_eq_decide,eq_iff_iff,iff_true]
     rw[c1]
    simp only[STD,hbr,hn0,c0,hbq,w1,w2,o1,o2]
   ·obtain⟨e1,e2⟩:=g1 ⟨c0,c1⟩
    rw[e2,e1]
    have w0:qk .i64 (q83 m n) n=q83 m n+n:=qO (by omega)
    have e3:n*(m.tdiv n-1)=n*m.tdiv n-n:=by rw[Int.mul_sub,Int.mul_one]
    have w1:qA .i64 m (q83 m n+n)=n*(m.tdiv n-1):=by rw[wA (by omega)];omega
    have w2:=qjK (t:=m.tdiv n-1) hn0 (by omega)
    have o1:=kK (m.tdiv n-1) (by omega) (by omega)
    have o2:=kK (q83 m n+n) (by omega) (by omega)
    have hbq:(ilt (q83 m n) 0=ilt n 0)=False:=by
     simp only[ilt,decide_eq_decide,eq_iff_iff,iff_false]
     exact fun h=>c1 (propext h)
    simp only[STD,hbr,hn0,c0,hbq,w0,w1,w2,o1,o2]
 ·rw[if_neg hb] at hbr
  have hm':(tN m.natAbs).length≤400000:=hm
  have hn':(tN n.natAbs).length≤400000:=hn
  have hD:=qrh (m:=m.natAbs) (n:=n.natAbs) (by omega) (by omega) (by omega)
  have lq:(tN (m.natAbs/n.natAbs)).length≤(tN m.natAbs).length:=kT (Nat.div_le_self _ _)
  have hS:=fun b=>q0m (m.natAbs/n.natAbs) b (by omega)
  have hbq:(decide (m<0)=decide (n<0))=((m<0)=(n<0)):=by
   simp only[decide_eq_decide,eq_iff_iff]
  have lf:=qGf m hn0
  have hT:=qnQ (fq m n) n (by omega) (by omega)
  have lt:=yU (fq m n) n
  have hM:=qbj m (fq m n*n) (by omega) (by omega)
  obtain⟨g1,g2⟩:=qIN (m:=m) hn0
  by_cases c1:(m<0)=(n<0)
  ·have e1:=g2 (fun h=>h.2 c1)
   rw[if_neg (by simpa using c1)] at e1
   have hS':=hS false
   simp only[Bool.false_eq_true,if_false] at hS'
   rw[←e1] at hS'
   have hnb:(!Go.Eng.beq (decide (m<0)) (decide (n<0)))=false:=by
    simp only[Go.Eng.beq,Bool.not_eq_false',beq_iff_eq];rw[hbq];exact c1
   by_cases c0:m.natAbs%n.natAbs=0
   ·simp only[STD,hbr,wO,hD,j2,hnb,hS',qY,q6a,c0,hT,hM]
   ·simp only[STD,hbr,wO,hD,j2,hnb,hS',qY,q6a,c0,hT,hM]
  ·have hnb:(!Go.Eng.beq (decide (m<0)) (decide (n<0)))=true:=by
    have:¬(decide (m<0)=decide (n<0)):=by rw[hbq];exact c1
    simp only[Go.Eng.beq,Bool.not_eq_true',beq_eq_false_iff_ne];exact this
   have hS':=hS true
   simp only[if_true] at hS'
   by_cases c0:m.natAbs%n.natAbs=0
   ·have e1:=g2 (fun h=>h.1 c0)
    rw[if_pos c1] at e1
    rw[←e1] at hS'
    simp only[STD,hbr,wO,hD,j2,hnb,hS',qY,q6a,c0,hT,hM]
   ·have e1:=g1 ⟨c0,c1⟩
    have hMi:=qbj (-((m.natAbs/n.natAbs:Nat):Int)) 1 (by rw[qtG];show (tN (m.natAbs/n.natAbs)).length≤_;omega) (by decide)
    rw[qEE,←e1] at hMi
    simp only[STD,hbr,wO,hD,j2,hnb,hS',qY,q6a,c0,hMi,hT,hM]
end Go.Eng

namespace Go.Eng
theorem qHO(x:Nat){y:Nat}(h:0<y):fq (x:Int) (y:Int)=((x/y:Nat):Int)∧(x:Int)-fq (x:Int) (y:Int)*(y:Int)=((x%y:Nat):Int):=by
 have e:fq (x:Int) (y:Int)=((x/y:Nat):Int):=by unfold fq;rw[if_pos (by omega)];rfl
 refine⟨e,?_⟩
 rw[e]
 have:=Nat.div_add_mod x y
 have h2:((y*(x/y):Nat):Int)=((x/y:Nat):Int)*(y:Int):=by rw[Nat.mul_comm];simp
 omega
theorem qFu(a b:Nat)(hb:b<9223372036854775808):(qf uI [.i (a:Int),.i (b:Int)]).run=some (0,[.i ((Nat.gcd a b:Nat):Int)]):=by
 obtain⟨j,qs,h1,rfl,rfl⟩:=vZ (S:=uI) (fun k ps=>∃x y:Nat,ps=[.i (x:Int),.i (y:Int)]∧y=k∧Nat.gcd x y=Nat.gcd a b)
  (fun j qs=>j=0∧qs=[.i ((Nat.gcd a b:Nat):Int)]) (n:=b) hb (fun k ps hk ⟨x,y,hps,hy,hg⟩=>by
  subst hps
  rw[qnT]
  by_cases h0:y=0
  ·right
   refine⟨0,[.i (x:Int)],?_,rfl,?_⟩
   ·simp only[STD,h0];simp[]
   ·rw[←hg,h0,Nat.gcd_zero_right]
  ·left
   refine⟨x%y,[.i (y:Int),.i ((x%y:Nat):Int)],by rw[←hy];exact Nat.mod_lt _ (by omega),?_,y,x%y,rfl,rfl,?_⟩
   ·simp only[STD,show (0:Int)<(y:Int) by omega,show ¬((y:Int)=0) by omega,qr2]
   ·rw[←hg,Nat.gcd_comm y,←Nat.gcd_rec,Nat.gcd_comm]) (ps:=[.i (a:Int),.i (b:Int)]) ⟨a,b,rfl,rfl,rfl⟩
 exact h1
def eM(a b:Nat):Nat:=if b=0 then 0 else Nat.log2 (a*b)+1+if a<b then 1 else 0
theorem qFd{m n:Nat}(h:m≤n):Nat.log2 m≤Nat.log2 n:=by
 by_cases hm:m=0
 ·subst hm;simp
 ·rcases Nat.lt_or_ge (Nat.log2 n) (Nat.log2 m) with h1|h1
  ·have:=(Nat.log2_lt (show n≠0 by omega)).1 h1
   have h2:=Nat.log2_self_le hm
   omega
  ·exact h1
theorem qEe{a b:Nat}(hb:b≠0):eM b (a%b)<eM a b:=by
 have hlt:=Nat.mod_lt a (show 0<b by omega)
 unfold eM
 rw[if_neg hb]
 by_cases hr:a%b=0
 ·rw[if_pos hr];omega
 ·rw[if_neg hr,if_neg (show ¬b<a%b by omega)]
  by_cases hab:a<b
  ·rw[if_pos hab,Nat.mod_eq_of_lt hab,Nat.mul_comm b a];omega
  ·rw[if_neg hab]
   have hd:=Nat.div_add_mod a b
   have hq:1≤a/b:=(Nat.le_div_iff_mul_le (by omega)).2 (by omega)
   have h1:b*1≤b*(a/b):=Nat.mul_le_mul_left _ hq
   have h2:2*(b*(a%b))≤a*b:=by
    have:2*(a%b)≤a:=by omega
    have:=Nat.mul_le_mul_right b this
    rw[Nat.mul_assoc,Nat.mul_comm (a%b) b] at this
    exact this
   have h3:=qFd h2
   have h4:Nat.log2 (2*(b*(a%b)))=Nat.log2 (b*(a%b))+1:=by
    apply Nat.log2_two_mul
    exact Nat.mul_ne_zero hb hr
   omega
theorem qEw{x k j:Nat}(h:(tN x).length≤k)(hj:4*k=j):x<2^j:=by
 have h3:x<10^k:=q6K h
 have h4:(10:Nat)^k≤16^k:=Nat.pow_le_pow_left (by omega) _
 have h5:(16:Nat)^k=2^j:=by rw[show (16:Nat)=2^4 from rfl,←Nat.pow_mul,hj]
 rw[h5] at h4
 exact Nat.lt_of_lt_of_le h3 h4
theorem qBF{a b:Nat}(ha:(tN a).length≤400000)(hb:(tN b).length≤400000):eM a b<9223372036854775808:=by
 unfold eM
 have h1:=qrP a b
 by_cases h0:a*b=0
 ·rw[h0];simp;split<;>(try split)<;>omega
 ·obtain⟨j,hj⟩:∃j,j=3200000:=⟨_,rfl⟩
  have h2:a*b<2^j:=qEw (k:=800000) (by omega) (by omega)
  have:=(Nat.log2_lt h0).2 h2
  split<;>(try split)<;>omega
theorem qkq(m n:Int)(hm:nl m≤400000)(hn:nl n≤400000):(q0B [.s (tI m),.s (tI n)]).run=some (0,[.s (tN (Nat.gcd m.natAbs n.natAbs))]):=by
 rw[qt6]
 have hm':(tN m.natAbs).length≤400000:=hm
 have hn':(tN n.natAbs).length≤400000:=hn
 have hS:=fun x (h:(tN x).length≤400000)=>q0m x false (by omega)
 simp only[Bool.false_eq_true,if_false,q1d] at hS
 obtain⟨j,qs,h1,h2,rfl⟩:=vZ (S:=q24) (fun k ps=>∃x y:Nat,ps=[.s (tN x),.s (tN y)]∧eM x y=k∧Nat.gcd x y=Nat.gcd m.natAbs n.natAbs∧(tN x).length≤400000∧(tN y).length≤400000)
  (fun j qs=>(j=0∨j=1)∧qs=[.s (tN (Nat.gcd m.natAbs n.natAbs))]) (n:=eM m.natAbs n.natAbs) (qBF hm' hn') (fun k ps hk ⟨x,y,hps,hy,hg,lx,ly⟩=>by
  subst hps
  rw[qox]
  by_cases h0:y=0
  ·right
   refine⟨0,[.s (tN x)],?_,.inl rfl,?_⟩
   ·simp only[STD,qY,q6a,h0]
   ·rw[←hg,h0,Nat.gcd_zero_right]
  ·have hbr:=q7Q (x:Int) (y:Int)
   rw[q1d,q1d] at hbr
   simp only[Int.natAbs_natCast] at hbr
   by_cases hb:(tN x).length≤18∧(tN y).length≤18
   ·right
    rw[if_pos hb] at hbr
    have b1:=qFW (m:=(x:Int)) hb.1
    have b2:=qFW (m:=(y:Int)) hb.2
    simp only[Int.natAbs_natCast] at b1 b2
    have hE:=qFu x y (by omega)
    have hgl:Nat.gcd x y≤y:=Nat.gcd_le_right _ (by omega)
    have hO:=kK ((Nat.gcd x y:Nat):Int) (by omega) (by omega)
    rw[q1d] at hO
    refine⟨1,[.s (tN (Nat.gcd x y))],?_,.inr rfl,by rw[hg]⟩
    simp only[STD,qY,q6a,h0,hbr,hE,hO]
   ·left
    rw[if_neg hb] at hbr
    have hP:=q5C (x:Int) (y:Int) (by omega) (by exact lx) (by exact ly)
    rw[q1d,q1d,(qHO x (show 0<y by omega)).2,q1d] at hP
    refine⟨eM y (x%y),[.s (tN y),.s (tN (x%y))],by rw[←hy];exact qEe h0,?_,y,x%y,rfl,rfl,?_,ly,Nat.le_trans (kT (Nat.le_of_lt (Nat.mod_lt _ (by omega)))) ly⟩
    ·simp only[STD,qY,q6a,h0,hbr,hP]
    ·rw[←hg,Nat.gcd_comm y,←Nat.gcd_rec,Nat.gcd_comm]) (ps:=[.s (tN m.natAbs),.s (tN n.natAbs)]) ⟨_,_,rfl,rfl,rfl,hm',hn'⟩
 rcases h2 with rfl|rfl
 ·simp only[STD,wO,hS _ hm',hS _ hn',h1,qu h1,ite_self]
 ·simp only[STD,wO,hS _ hm',hS _ hn',h1,qu h1,ite_self]
def mag(s:List UInt8):List UInt8:=if s.getD 0 0=45 then s.drop 1 else s
theorem qy7(m:Int):mag (tI m)=tN m.natAbs:=by
 unfold mag
 by_cases h:m<0
 ·rw[qdH h];simp
 ·rw[qmd h]
  obtain⟨c,t,e,h1,h2⟩:=qjF (wg m.natAbs) (qsd _)
  rw[e]
  simp only[List.getD_cons_zero]
  rw[if_neg]
  intro hc;subst hc;revert h1;decide
theorem qyj(s:List UInt8):(∃m:Int,s=tI m)↔mag s≠[]∧q6C (mag s)∧((mag s).getD 0 0=48→s.length=1):=by
 constructor
 ·rintro ⟨m,rfl⟩
  rw[qy7]
  refine⟨qsd _,wg _,fun h=>?_⟩
  rcases qEc m.natAbs with h1|h1
  ·have h2:=qww m.natAbs
   have hv:m.natAbs=0:=by
    obtain⟨c,e⟩:∃c,tN m.natAbs=[c]:=List.length_eq_one_iff.1 h1
    rw[e] at h
    simp at h
    have:=q0V m.natAbs
    rw[e,h] at this
    simpa[val,dv] using this.symm
   have hm0:m=0:=by omega
   rw[hm0];rfl
  ·exact absurd h h1
 ·rintro ⟨h1,h2,h3⟩
  by_cases h45:s.getD 0 0=45
  ·have hm:mag s=s.drop 1:=by unfold mag;rw[if_pos h45]
   obtain⟨c,t,rfl⟩:∃c t,s=c::t:=by
    cases s with
    | nil=>simp at h45
    | cons c t=>exact⟨c,t,rfl⟩
   simp at h45
   subst h45
   rw[hm] at h1 h2 h3
   simp only[List.drop_succ_cons,List.drop_zero] at h1 h2 h3
   have h4:t.getD 0 0≠48:=fun h=>by
    have:=h3 h
    simp at this
    exact h1 this
   have hv:=qAT h2 h1 h4
   have hp:0<10^(t.length-1):=Nat.pow_pos (by omega)
   refine⟨-((val t:Nat):Int),?_⟩
   rw[qdH (by omega)]
   simp only[Int.natAbs_neg,Int.natAbs_natCast]
   rw[←qtE h2 h1 (.inr h4)]
  ·have hm:mag s=s:=by unfold mag;rw[if_neg h45]
   rw[hm] at h1 h2 h3
   refine⟨((val s:Nat):Int),?_⟩
   rw[q1d]
   refine qtE h2 h1 ?_
   by_cases h4:s.getD 0 0=48
   ·exact .inl (h3 h4)
   ·exact .inr h4
open Classical in
noncomputable def qzg(s:List UInt8):Int:=if ∃m:Int,s=tI m then (if (mag s).length≤1024 then 0 else 11) else 3
theorem qIk(s:List UInt8)(hl:s.length≤9223372036854775807):(qx [.s s]).run=some (0,[.s (mag s)]):=by
 rw[qnR]
 cases s with
 | nil=>simp only[STD,qY];rfl
 | cons c t=>
  have h1:(0:Int)<qt (c::t):=by unfold qt;simp only[List.length_cons];omega
  have h2:(1:Int)≤qt (c::t):=by omega
  have hs:sat (c::t) 0=(c.toNat:Int):=by simp[sat]
  have hc:((c.toNat:Int)=45)=(c=45):=by
   simp only[eq_iff_iff]
   exact⟨fun h=>UInt8.toNat_inj.1 (by show c.toNat=45;omega),fun h=>by rw[h];rfl⟩
  simp only[STD,qY,show ¬(c::t=[]) by simp,h1,h2,hs,hc,Int.le_refl,and_self,show (0:Int)≤qt (c::t) by omega,show (0:Int)≤1 by omega]
  unfold mag
  simp only[List.getD_cons_zero]
  by_cases h:c=45
  ·rw[if_pos h,if_pos h];simp[qds,qt]
  ·rw[if_neg h,if_neg h]
theorem qoo(s:List UInt8)(hl:s.length≤1000000000):(q4g [.s s]).run=some (0,[.i (qzg s)]):=by
 rw[quO]
 have hsz:=qIk s (by omega)
 have hml:(mag s).length≤s.length:=by unfold mag;split<;>simp
 obtain⟨j,qs,h1,h2⟩:=vZ (S:=q1l) (fun k ps=>∃i:Nat,ps=[.s (mag s),.i (i:Int)]∧i+k=(mag s).length∧q6C ((mag s).take i))
  (fun j qs=>(q6C (mag s)∧j=0∧qs=[.s (mag s)])∨(¬q6C (mag s)∧j=1∧qs=[.i 3])) (n:=(mag s).length) (by omega) (fun k ps hk ⟨i,hps,hi,hd⟩=>by
  subst hps
  rw[qqQ]
  by_cases hlt:i<(mag s).length
  ·have a1:(i:Int)<qt (mag s):=by unfold qt;omega
   have a2:(0:Int)≤(i:Int):=by omega
   have hs:=qm5 hlt
   have hw:qk .i64 (i:Int) 1=((i+1:Nat):Int):=by rw[qO (by omega)];omega
   by_cases b1:((mag s)[i].toNat:Int)<48
   ·right
    refine⟨1,[.i 3],?_,.inr ⟨fun h=>?_,rfl,rfl⟩⟩
    ·simp only[STD,a1,a2,hs,b1,and_self]
    ·have:=(qjI h hlt).1;omega
   ·by_cases b2:(57:Int)<((mag s)[i].toNat:Int)
    ·right
     refine⟨1,[.i 3],?_,.inr ⟨fun h=>?_,rfl,rfl⟩⟩
     ·simp only[STD,a1,a2,hs,b1,b2,and_self]
     ·have:=(qjI h hlt).2;omega
    ·left
     refine⟨k-1,[.s (mag s),.i ((i+1:Nat):Int)],by omega,?_,i+1,rfl,by omega,?_⟩
     ·simp only[STD,a1,a2,hs,b1,b2,and_self,hw]
     ·rw[List.take_succ_eq_append_getElem hlt]
      exact q8X.2 ⟨hd,fun c hc=>by simp at hc;subst hc;omega⟩
  ·right
   have a1:¬((i:Int)<qt (mag s)):=by unfold qt;omega
   refine⟨0,[.s (mag s)],?_,.inl ⟨?_,rfl,rfl⟩⟩
   ·simp only[STD,a1]
   ·rwa [List.take_of_length_le (by omega)] at hd) (ps:=[.s (mag s),.i 0]) ⟨0,rfl,by omega,by simpa using qmw⟩
 have hcan:=qyj s
 unfold qzg
 by_cases hne:mag s=[]
 ·rw[if_neg (fun h=>(hcan.1 h).1 hne)]
  simp only[STD,hsz,qY,hne]
 ·have hp:0<(mag s).length:=List.length_pos_iff.2 hne
  have a1:(0:Int)<qt (mag s):=by unfold qt;omega
  have hs:sat (mag s) 0=((mag s)[0].toNat:Int):=qm5 (i:=0) hp
  have h48:((mag s)[0].toNat:Int)=48↔(mag s).getD 0 0=48:=by
   have:(mag s).getD 0 0=(mag s)[0]:=by simp[List.getD_eq_getElem?_getD,hp]
   rw[this]
   exact⟨fun h=>UInt8.toNat_inj.1 (by show (mag s)[0].toNat=48;omega),fun h=>by rw[h];rfl⟩
  have hl1:(1<qt s)=(1<s.length):=by unfold qt;simp only[eq_iff_iff];omega
  have hl2:(1<qt (mag s))=(1<(mag s).length):=by unfold qt;simp only[eq_iff_iff];omega
  have hl3:(1024<qt (mag s))=¬((mag s).length≤1024):=by unfold qt;simp only[eq_iff_iff];omega
  by_cases hz:((mag s)[0].toNat:Int)=48
  ·by_cases hs1:1<s.length
   ·rw[if_neg (fun h=>by have:=(hcan.1 h).2.2 (h48.1 hz);omega)]
    by_cases hs2:1<(mag s).length
    ·simp only[STD,hsz,qY,hne,a1,hs,hz,hl1,hl2,hs1,hs2,Int.le_refl,and_self]
    ·simp only[STD,hsz,qY,hne,a1,hs,hz,hl1,hl2,hs1,hs2,Int.le_refl,and_self]
   ·have hs2:¬1<(mag s).length:=by omega
    rcases h2 with⟨hd,rfl,rfl⟩|⟨hd,rfl,rfl⟩
    ·rw[if_pos (hcan.2 ⟨hne,hd,fun _=>by omega⟩)]
     simp only[STD,hsz,qY,hne,a1,hs,hz,hl1,hl2,hl3,hs1,hs2,Int.le_refl,and_self,h1,qu h1]
     split<;>simp_all
    ·rw[if_neg (fun h=>hd (hcan.1 h).2.1)]
     simp only[STD,hsz,qY,hne,a1,hs,hz,hl1,hl2,hs1,hs2,Int.le_refl,and_self,h1,qu h1,show ¬(1=0) by omega]
  ·rcases h2 with⟨hd,rfl,rfl⟩|⟨hd,rfl,rfl⟩
   ·rw[if_pos (hcan.2 ⟨hne,hd,fun h=>absurd (h48.2 h) hz⟩)]
    simp only[STD,hsz,qY,hne,a1,hs,hz,hl1,hl2,hl3,Int.le_refl,and_self,h1,qu h1]
    split<;>simp_all
   ·rw[if_neg (fun h=>hd (hcan.1 h).2.1)]
    simp only[STD,hsz,qY,hne,a1,hs,hz,hl1,hl2,Int.le_refl,and_self,h1,qu h1,show ¬(1=0) by omega]
end Go.Eng

namespace Go.Eng
def tQ(q:Rat):List UInt8:=if q.den=1 then tI q.num else tI q.num++47::tN q.den
def dl(n:Nat):Nat:=(tN n).length
def qn(q:Rat):Nat:=nl q.num
def qd(q:Rat):Nat:=dl q.den
theorem qDm{s:List UInt8}(h:q6C s):∀c,c∈s→c≠47:=fun c hc e=>by
 have:=h c hc
 rw[e] at this
 revert this;decide
theorem qu0(m:Int):∀c,c∈tI m→c≠47:=by
 intro c hc
 unfold tI at hc
 split at hc
 ·rcases List.mem_cons.1 hc with rfl|hc
  ·decide
  ·exact qDm (wg _) c hc
 ·exact qDm (wg _) c hc
theorem qBy:∀{s s' t t':List UInt8},(∀c,c∈s→c≠47)→(∀c,c∈s'→c≠47)→s++47::t=s'++47::t'→s=s'∧t=t'
 | [],[],t,t',_,_,h=>⟨rfl,by simpa using h⟩
 | [],c::s',t,t',_,h2,h=>by
  simp only[List.nil_append,List.cons_append,List.cons.injEq] at h
  exact absurd h.1.symm (h2 c List.mem_cons_self)
 | c::s,[],t,t',h1,_,h=>by
  simp only[List.nil_append,List.cons_append,List.cons.injEq] at h
  exact absurd h.1 (h1 c List.mem_cons_self)
 | c::s,c'::s',t,t',h1,h2,h=>by
  simp only[List.cons_append,List.cons.injEq] at h
  obtain⟨e1,e2⟩:=qBy (fun c hc=>h1 c (List.mem_cons_of_mem _ hc)) (fun c hc=>h2 c (List.mem_cons_of_mem _ hc)) h.2
  exact⟨by rw[h.1,e1],e2⟩
theorem qcK{q:Rat}(h:q.den=1):tQ q=tI q.num:=by unfold tQ;rw[if_pos h]
theorem q78{q:Rat}(h:q.den≠1):tQ q=tI q.num++47::tN q.den:=by unfold tQ;rw[if_neg h]
theorem qI7{a b:Rat}(h:tQ a=tQ b):a=b:=by
 by_cases ha:a.den=1<;>by_cases hb:b.den=1
 ·rw[qcK ha,qcK hb] at h
  exact Rat.ext (qyB h) (ha.trans hb.symm)
 ·rw[qcK ha,q78 hb] at h
  exact absurd rfl (qu0 a.num 47 (by rw[h];simp))
 ·rw[q78 ha,qcK hb] at h
  exact absurd rfl (qu0 b.num 47 (by rw[←h];simp))
 ·rw[q78 ha,q78 hb] at h
  obtain⟨e1,e2⟩:=qBy (qu0 _) (qu0 _) h
  exact Rat.ext (qyB e1) (qvE e2)
theorem qCs(a b:Rat):(tQ a=tQ b)=(a=b):=propext ⟨qI7,fun h=>by rw[h]⟩
theorem qA0(m:Int):tQ (m:Rat)=tI m:=qcK (by simp)
theorem qGd(n:Nat):tQ (OfNat.ofNat n:Rat)=tN n:=by
 rw[qcK (by simp)]
 simp only[Rat.num_ofNat]
 exact q1d n
theorem qeo{m n:Int}(h:m.natAbs≤n.natAbs):nl m≤nl n:=kT h
theorem qDe{m n:Nat}(h:m≤n):dl m≤dl n:=kT h
theorem qim(n:Nat):nl (n:Int)=dl n:=rfl
theorem qEU(m n:Nat):dl (m*n)≤dl m+dl n:=qrP m n
theorem qBM(m n:Int):nl (m-n)≤max (nl m) (nl n)+1:=by
 rw[Int.sub_eq_add_neg]
 have:=quX m (-n)
 rwa [qtG] at this
theorem qdt(N:Int)(D:Nat):nl (mkRat N D).num≤nl N∧dl (mkRat N D).den≤dl D:=by
 rw[Rat.num_mkRat,Rat.den_mkRat]
 by_cases h:D=0
 ·rw[if_pos h,if_pos h,h]
  exact⟨qeo (by simp),dl_mono' ⟩
 ·rw[if_neg h,if_neg h]
  exact⟨qeo (Int.natAbs_ediv_le_natAbs _ _),qDe (Nat.div_le_self _ _)⟩
 where dl_mono':dl 1≤dl 0:=by decide
theorem qEd(a b:Rat):qn (a*b)≤qn a+qn b:=by
 unfold qn
 rw[Rat.mul_def']
 exact Nat.le_trans (qdt _ _).1 (yU _ _)
theorem qEm(a b:Rat):qd (a*b)≤qd a+qd b:=by
 unfold qd
 rw[Rat.mul_def']
 exact Nat.le_trans (qdt _ _).2 (qEU _ _)
theorem qI9(a b:Rat):qn (a+b)≤max (qn a+qd b) (qn b+qd a)+1:=by
 unfold qn qd
 rw[Rat.add_def']
 have h1:=(qdt (a.num*b.den+b.num*a.den) (a.den*b.den)).1
 have h2:=quX (a.num*b.den) (b.num*a.den)
 have h3:=yU a.num b.den
 have h4:=yU b.num a.den
 rw[qim] at h3 h4
 omega
theorem qIf(a b:Rat):qd (a+b)≤qd a+qd b:=by
 unfold qd
 rw[Rat.add_def']
 exact Nat.le_trans (qdt _ _).2 (qEU _ _)
theorem qIc(a b:Rat):qn (a-b)≤max (qn a+qd b) (qn b+qd a)+1:=by
 unfold qn qd
 rw[Rat.sub_def']
 have h1:=(qdt (a.num*b.den-b.num*a.den) (a.den*b.den)).1
 have h2:=qBM (a.num*b.den) (b.num*a.den)
 have h3:=yU a.num b.den
 have h4:=yU b.num a.den
 rw[qim] at h3 h4
 omega
theorem qHU(a b:Rat):qd (a-b)≤qd a+qd b:=by
 unfold qd
 rw[Rat.sub_def']
 exact Nat.le_trans (qdt _ _).2 (qEU _ _)
theorem qII(a:Rat):qn (-a)=qn a:=by unfold qn;rw[Rat.neg_num,qtG]
theorem qrV(a:Rat):0<qn a:=qsl _
theorem qBz(a:Rat):0<qd a:=ql4 _
theorem qIj{a:Rat}(h:a≠0):qn a⁻¹≤qd a:=by
 unfold qn qd
 rw[Rat.num_inv,←qim]
 apply qeo
 rw[Int.natAbs_mul,Int.natAbs_sign_of_ne_zero (by rwa [Ne,Rat.num_eq_zero])]
 simp
theorem qID{a:Rat}(h:a≠0):qd a⁻¹≤qn a:=by
 unfold qn qd
 rw[Rat.den_inv,if_neg (by rwa [Rat.num_eq_zero])]
 exact Nat.le_refl _
theorem qIu(a:Rat){b:Rat}(h:b≠0):qn (a/b)≤qn a+qd b:=by
 rw[Rat.div_def]
 exact Nat.le_trans (qEd _ _) (Nat.add_le_add_left (qIj h) _)
theorem qI4(a:Rat){b:Rat}(h:b≠0):qd (a/b)≤qd a+qn b:=by
 rw[Rat.div_def]
 exact Nat.le_trans (qEm _ _) (Nat.add_le_add_left (qID h) _)
def sgq(q:Rat):Int:=sgn q.num
theorem qgN{m k:Int}(hk:0<k):sgn (m*k)=sgn m:=by
 unfold sgn
 rcases Int.lt_trichotomy m 0 with h|h|h
 ·have:=Int.mul_neg_of_neg_of_pos h hk
  rw[if_pos h,if_pos this]
 ·subst h;simp
 ·have:=Int.mul_pos h hk
  rw[if_neg (by omega),if_neg (by omega),if_neg (by omega),if_neg (by omega)]
theorem qH7(m:Int):sgn (-m)=-sgn m:=by
 unfold sgn
 rcases Int.lt_trichotomy m 0 with h|h|h
 ·rw[if_pos h,if_neg (by omega),if_neg (by omega)];rfl
 ·subst h;rfl
 ·rw[if_pos (by omega),if_neg (by omega),if_neg (by omega)]
theorem qvO{q:Rat}(h:0<q):sgq q=1:=by
 unfold sgq sgn
 have h1:0≤q.num:=Rat.num_nonneg.2 (Rat.le_of_lt h)
 have h2:q.num≠0:=fun e=>by rw[Rat.num_eq_zero] at e;rw[e] at h;exact Rat.lt_irrefl h
 rw[if_neg (by omega),if_neg h2]
theorem qEs(q:Rat):sgq (-q)=-sgq q:=by unfold sgq;rw[Rat.neg_num,qH7]
theorem qEJ{q:Rat}(h:q<0):sgq q=-1:=by
 have h1:0 < -q:=by grind
 have:=qvO h1
 rw[qEs] at this
 omega
theorem q6H(q:Rat):(q<0∧sgq q=-1)∨(q=0∧sgq q=0)∨(0<q∧sgq q=1):=by
 by_cases h1:q<0
 ·exact .inl ⟨h1,qEJ h1⟩
 ·by_cases h2:q=0
  ·exact .inr (.inl ⟨h2,by rw[h2];rfl⟩)
  ·exact .inr (.inr ⟨by grind,qvO (by grind)⟩)
theorem qjD(q:Rat):(sgq q≤0)=(q≤0):=by
 rcases q6H q with⟨h,e⟩|⟨h,e⟩|⟨h,e⟩<;>rw[e]<;>simp<;>grind
theorem qvB(q:Rat):(sgq q<0)=(q<0):=by
 rcases q6H q with⟨h,e⟩|⟨h,e⟩|⟨h,e⟩<;>rw[e]<;>simp<;>grind
theorem qF8(N:Int){D:Nat}(h:D≠0):sgq (mkRat N D)=sgn N:=by
 have hp:(0:Rat)<(D:Rat):=by
  have:0<D:=by omega
  exact Rat.natCast_pos.2 this
 have e:(mkRat N D)*(D:Rat)=(N:Rat):=by
  rw[Rat.mkRat_eq_div]
  exact Rat.div_mul_cancel (by grind)
 have h2:sgn N=sgq (N:Rat):=by unfold sgq;simp
 rw[h2,←e]
 rcases q6H (mkRat N D) with⟨h,e⟩|⟨h,e⟩|⟨h,e⟩
 ·rw[e,qEJ]
  exact(Rat.mul_neg_iff_of_pos_right hp).2 h
 ·rw[e,h,Rat.zero_mul];rfl
 ·rw[e,qvO]
  exact Rat.mul_pos h hp
theorem qHF(a b:Rat):sgq (a-b)=sgn (a.num*b.den-b.num*a.den):=by
 rw[Rat.sub_def',qF8]
 exact Nat.mul_ne_zero a.den_nz b.den_nz
end Go.Eng

namespace Go.Eng
def sP(s:List UInt8):Nat:=s.findIdx (·==47)
def spn(s:List UInt8):List UInt8:=s.take (sP s)
def spd(s:List UInt8):List UInt8:=if sP s<s.length then s.drop (sP s+1) else [49]
theorem qEL(s:List UInt8):sP s≤s.length:=List.findIdx_le_length
theorem qHf{s:List UInt8}{i:Nat}(h:i<s.length)(h1:s[i]=47)(h2:∀j (hj:j<i),s[j]≠47):sP s=i:=by
 unfold sP
 rw[List.findIdx_eq h]
 exact⟨by simp[h1],fun j hj=>by simp[h2 j hj]⟩
theorem qwT{s:List UInt8}(h:∀c,c∈s→c≠47):sP s=s.length:=by
 unfold sP
 rw[List.findIdx_eq_length]
 intro x hx
 simpa using h x hx
theorem qDx{s t:List UInt8}(h:∀c,c∈s→c≠47):sP (s++47::t)=s.length:=by
 apply qHf (by simp)
 ·simp
 ·intro j hj
  rw[List.getElem_append_left hj]
  exact h _ (List.getElem_mem hj)
theorem qBn(q:Rat):spn (tQ q)=tI q.num:=by
 unfold spn
 by_cases h:q.den=1
 ·rw[qcK h,qwT (qu0 _),List.take_length]
 ·rw[q78 h,qDx (qu0 _)];simp
theorem qBA(q:Rat):spd (tQ q)=tN q.den:=by
 unfold spd
 by_cases h:q.den=1
 ·rw[qcK h,qwT (qu0 _),if_neg (Nat.lt_irrefl _),h];rfl
 ·rw[q78 h,qDx (qu0 _),if_pos (by simp)];simp
theorem qFb(s:List UInt8)(hl:s.length≤9223372036854775807):(q1X [.s s]).run=some (0,[.i (if sP s<s.length then (sP s:Int) else -1)]):=by
 rw[qtY]
 obtain⟨j,qs,h1,h2⟩:=vZ (S:=q3d) (fun k ps=>∃i:Nat,ps=[.s s,.i (i:Int)]∧i+k=s.length∧∀j (hj:j<i) (hj2:j<s.length),s[j]≠47)
  (fun j qs=>(¬sP s<s.length∧j=0∧qs=[])∨(sP s<s.length∧j=1∧qs=[.i (sP s:Int)])) (n:=s.length) (by omega) (fun k ps hk ⟨i,hps,hi,hd⟩=>by
  subst hps
  rw[qqz]
  by_cases hlt:i<s.length
  ·have a1:(i:Int)<qt s:=by unfold qt;omega
   have a2:(0:Int)≤(i:Int):=by omega
   have hs:=qm5 hlt
   have hw:qk .i64 (i:Int) 1=((i+1:Nat):Int):=by rw[qO (by omega)];omega
   by_cases b1:s[i]=47
   ·right
    have e:=qHf hlt b1 (fun j hj=>hd j hj (by omega))
    have b2:(s[i].toNat:Int)=47:=by rw[b1];rfl
    refine⟨1,[.i (i:Int)],?_,.inr ⟨by rw[e];exact hlt,rfl,by rw[e]⟩⟩
    simp only[STD,a1,a2,hs,b2,and_self]
   ·left
    have b2:¬(s[i].toNat:Int)=47:=fun h=>b1 (UInt8.toNat_inj.1 (by show s[i].toNat=47;omega))
    refine⟨k-1,[.s s,.i ((i+1:Nat):Int)],by omega,?_,i+1,rfl,by omega,?_⟩
    ·simp only[STD,a1,a2,hs,b2,and_self,hw]
    ·intro j hj hj2
     rcases Nat.lt_or_ge j i with h|h
     ·exact hd j h hj2
     ·obtain rfl:j=i:=by omega
      exact b1
  ·right
   have a1:¬((i:Int)<qt s):=by unfold qt;omega
   refine⟨0,[],?_,.inl ⟨?_,rfl,rfl⟩⟩
   ·simp only[STD,a1]
   ·rw[qwT]
    ·omega
    ·intro c hc
     obtain⟨j,hj,rfl⟩:=List.mem_iff_getElem.1 hc
     exact hd j (by omega) hj) (ps:=[.s s,.i 0]) ⟨0,rfl,by omega,fun j hj=>by omega⟩
 rcases h2 with⟨h2,rfl,rfl⟩|⟨h2,rfl,rfl⟩
 ·rw[if_neg h2];simp only[STD,h1,qu h1]
 ·rw[if_pos h2];simp only[STD,h1,qu h1,show ¬(1=0) by omega]
theorem qzJ(s:List UInt8)(hl:s.length≤9223372036854775807):(wB [.s s]).run=some (0,[.s (spn s),.s (spd s)]):=by
 rw[quc]
 have hs:=qFb s hl
 have hle:=qEL s
 unfold spd spn
 by_cases h:sP s<s.length
 ·rw[if_pos h] at hs ⊢
  have a1:¬((sP s:Int)<0):=by omega
  have a2:(sP s:Int)≤qt s:=by unfold qt;omega
  have hw:qk .i64 (sP s:Int) 1=((sP s+1:Nat):Int):=by rw[qO (by omega)];omega
  have a3:((sP s+1:Nat):Int)≤qt s:=by unfold qt;omega
  have e1:qds s 0 (sP s:Int)=s.take (sP s):=by simp[qds]
  have e2:qds s ((sP s+1:Nat):Int) (qt s)=s.drop (sP s+1):=by
   unfold qds qt
   simp only[Int.toNat_natCast,List.take_length]
  simp only[STD,hs,a1,a2,hw,a3,e1,e2,show (0:Int)≤(sP s:Int) by omega,show (0:Int)≤((sP s+1:Nat):Int) by omega,show (0:Int)≤qt s by unfold qt;omega,Int.le_refl,and_self]
 ·rw[if_neg h] at hs ⊢
  have e:s.take (sP s)=s:=List.take_of_length_le (by omega)
  rw[e]
  simp only[STD,hs,show (-1:Int)<0 by omega]
theorem qGN(q:Rat):(tQ q).length≤qn q+qd q+2:=by
 have h1:=qyV q.num
 unfold qn qd nl dl
 by_cases h:q.den=1
 ·rw[qcK h];omega
 ·rw[q78 h];simp;omega
theorem qwy(q:Rat)(hn:qn q≤400000)(hd:qd q≤400000):(wB [.s (tQ q)]).run=some (0,[.s (tI q.num),.s (tI (q.den:Int))]):=by
 have:=qGN q
 rw[qzJ _ (by omega),qBn,qBA,q1d]
theorem qjc(a b:Rat)(ha:qn a≤400000)(ha':qd a≤400000)(hb:qn b≤400000)(hb':qd b≤400000) :
  (zr [.s (tQ a),.s (tQ b)]).run=some (0,[.r [[.s (tI (a.num*b.den))],[.s (tI (b.num*a.den))],[.s (tI (a.den*b.den))],[.s (tI (a.num*b.num))],[.s (tI (a.den*b.num))]]]):=by
 rw[qqT]
 have t:=fun (m n:Int) (h1:nl m≤400000) (h2:nl n≤400000)=>qnQ m n (by omega) (by omega)
 simp only[STD,qwy a ha ha',qwy b hb hb',t a.num b.den ha hb',t b.num a.den hb ha',t a.den b.den ha' hb',t a.num b.num ha hb,t a.den b.num ha' hb]
theorem q6u(n:Nat):(tN n=[49])=(n=1):=by
 have:tN 1=[49]:=rfl
 rw[←this];exact propext ⟨fun h=>qvE h,fun h=>by rw[h]⟩
theorem qmN(m n:Int)(hn:n≠0)(hm':nl m≤400000)(hn':nl n≤400000):(zM [.s (tI m),.s (tI n)]).run=some (0,[.s (tQ (Rat.divInt m n))]):=by
 rw[qrS]
 have hS:=qkq m n hm' hn'
 have hg0:0<Nat.gcd m.natAbs n.natAbs:=Nat.gcd_pos_of_pos_right _ (by omega)
 have hgn:Nat.gcd m.natAbs n.natAbs≤n.natAbs:=Nat.gcd_le_right _ (by omega)
 have hgl:(tN (Nat.gcd m.natAbs n.natAbs)).length≤400000:=Nat.le_trans (kT hgn) hn'
 have hnum:=Rat.num_divInt m n
 have hden:=Rat.den_divInt m n
 rw[if_neg hn] at hden
 have hgc:Int.gcd n m=Nat.gcd m.natAbs n.natAbs:=by unfold Int.gcd;exact Nat.gcd_comm _ _
 rw[hgc] at hnum hden
 obtain⟨k,hk⟩:((Nat.gcd m.natAbs n.natAbs:Nat):Int) ∣ m:=Int.ofNat_dvd_left.2 (Nat.gcd_dvd_left _ _)
 obtain⟨l,hl⟩:((Nat.gcd m.natAbs n.natAbs:Nat):Int) ∣ n:=Int.ofNat_dvd_left.2 (Nat.gcd_dvd_right _ _)
 generalize Nat.gcd m.natAbs n.natAbs=g at *
 generalize Rat.divInt m n=q at *
 have hB:=j2 n
 have hm2:k*(g:Int)=m:=by rw[Int.mul_comm];exact hk.symm
 have hn2:l*(g:Int)=n:=by rw[Int.mul_comm];exact hl.symm
 have hql:nl q.num≤400000:=by
  refine Nat.le_trans (qeo ?_) hm'
  rw[hnum]
  refine Nat.le_trans (Int.natAbs_ediv_le_natAbs _ _) ?_
  rw[Int.natAbs_mul,Int.natAbs_sign_of_ne_zero hn];omega
 have hdl:(tN q.den).length≤400000:=by
  refine Nat.le_trans (kT ?_) hn'
  rw[hden];exact Nat.div_le_self _ _
 have hil:=qyV q.num
 have hil2:(tN q.num.natAbs).length≤400000:=hql
 have fin:(Tree.br (seq (tI (q.den:Int)) [49]) (Tree.leaf (0,[PV.s (tI q.num)])) (Tree.br (ile (qt (tI q.num)+qt [47]) 140737488355328) (Tree.br (ile (qt (qeY (tI q.num) [47])+qt (tI (q.den:Int))) 140737488355328)
   (Tree.leaf (0,[PV.s (qeY (qeY (tI q.num) [47]) (tI (q.den:Int)))])) Tree.fail) Tree.fail)).run=some (0,[PV.s (tQ q)]):=by
  rw[q1d]
  have a1:qt (tI q.num)+qt [47]≤140737488355328:=by unfold qt;simp;omega
  have a2:qt (qeY (tI q.num) [47])+qt (tN q.den)≤140737488355328:=by unfold qt qeY;simp;omega
  by_cases h1:q.den=1
  ·simp only[STD,qY,q6u,h1,qcK h1]
  ·simp only[STD,qY,q6u,h1,q78 h1,a1,a2]
   simp[qeY]
 by_cases hneg:n<0
 ·have hT:=qe6 (g:Int) (by simp only[Int.natAbs_natCast];omega)
  rw[q1d] at hT
  have e1:fq m (-(g:Int))=q.num:=by
   have:fq ((-k)*(-(g:Int))) (-(g:Int))=-k:=qr7 (by omega)
   rw[show (-k)*(-(g:Int))=m by rw[Int.neg_mul_neg];exact hm2] at this
   rw[this,hnum,Int.sign_eq_neg_one_of_neg hneg,←hm2]
   rw[show (-1:Int)*(k*(g:Int))=(-k)*(g:Int) by rw[Int.neg_mul,Int.one_mul,Int.neg_mul]]
   exact(Int.mul_ediv_cancel _ (by omega)).symm
  have e2:fq n (-(g:Int))=(q.den:Int):=by
   have:fq ((-l)*(-(g:Int))) (-(g:Int))=-l:=qr7 (by omega)
   rw[show (-l)*(-(g:Int))=n by rw[Int.neg_mul_neg];exact hn2] at this
   rw[this,hden]
   have h3:(n.natAbs:Int)=(-l)*(g:Int):=by rw[Int.neg_mul];omega
   rw[Int.natCast_ediv,h3,Int.mul_ediv_cancel _ (by omega)]
  have P1:=q5C m (-(g:Int)) (by omega) hm' (by rw[qtG];exact hgl)
  have P2:=q5C n (-(g:Int)) (by omega) hn' (by rw[qtG];exact hgl)
  rw[e1] at P1
  rw[e2] at P2
  simp only[STD,hS,hB,hneg,hT,P1,P2] at fin ⊢
  exact fin
 ·have e1:fq m (g:Int)=q.num:=by
   have:fq (k*(g:Int)) (g:Int)=k:=qr7 (by omega)
   rw[hm2] at this
   rw[this,hnum,Int.sign_eq_one_of_pos (by omega),Int.one_mul,←hm2]
   exact(Int.mul_ediv_cancel _ (by omega)).symm
  have e2:fq n (g:Int)=(q.den:Int):=by
   have:fq (l*(g:Int)) (g:Int)=l:=qr7 (by omega)
   rw[hn2] at this
   rw[this,hden]
   have h3:(n.natAbs:Int)=l*(g:Int):=by omega
   rw[Int.natCast_ediv,h3,Int.mul_ediv_cancel _ (by omega)]
  have P1:=q5C m (g:Int) (by omega) hm' hgl
  have P2:=q5C n (g:Int) (by omega) hn' hgl
  rw[e1,q1d] at P1
  rw[e2,q1d] at P2
  simp only[STD,hS,hB,hneg,P1,P2] at fin ⊢
  rw[q1d] at fin
  exact fin
def sm(K:Nat)(q:Rat):Prop:=qn q≤K∧qd q≤K
theorem qzc(a:Rat):(0:Int)<(a.den:Int):=by have:=a.den_nz;omega
theorem q9y{a b:Rat}(ha:sm 100000 a)(hb:sm 100000 b):(yd [.s (tQ a),.s (tQ b)]).run=some (0,[.s (tQ (a+b))]):=by
 rw[qxl]
 obtain⟨h1,h2⟩:=ha
 obtain⟨h3,h4⟩:=hb
 have hc:=qjc a b (by omega) (by omega) (by omega) (by omega)
 simp only[qn,qd] at h1 h2 h3 h4
 have l1:=yU a.num b.den
 have l2:=yU b.num a.den
 have l3:=yU a.den b.den
 rw[qim] at l1 l2 l3
 rw[qim] at l3
 have l4:=quX (a.num*b.den) (b.num*a.den)
 have hP:=qqf (a.num*b.den) (b.num*a.den) (by omega) (by omega)
 have hL:=qmN (a.num*b.den+b.num*a.den) (a.den*b.den) (by have:=Int.mul_pos (qzc a) (qzc b);omega) (by omega) (by omega)
 have e:Rat.divInt (a.num*b.den+b.num*a.den) ((a.den:Int)*(b.den:Int))=a+b:=by
  rw[Rat.add_def',←Rat.divInt_ofNat];simp
 rw[e] at hL
 simp only[STD,hc,cS,vk,qh,List.length_cons,List.length_nil,Int.toNat_zero,List.getD_cons_zero,U.toS,show (1:Int).toNat=1 from rfl,show (2:Int).toNat=2 from rfl,List.getD_cons_succ,hP,hL]
 simp[]
theorem q4t{a b:Rat}(ha:sm 100000 a)(hb:sm 100000 b):(wD [.s (tQ a),.s (tQ b)]).run=some (0,[.s (tQ (a-b))]):=by
 rw[quE]
 obtain⟨h1,h2⟩:=ha
 obtain⟨h3,h4⟩:=hb
 have hc:=qjc a b (by omega) (by omega) (by omega) (by omega)
 simp only[qn,qd] at h1 h2 h3 h4
 have l1:=yU a.num b.den
 have l2:=yU b.num a.den
 have l3:=yU a.den b.den
 rw[qim] at l1 l2 l3
 rw[qim] at l3
 have l4:=qBM (a.num*b.den) (b.num*a.den)
 have hP:=qbj (a.num*b.den) (b.num*a.den) (by omega) (by omega)
 have hL:=qmN (a.num*b.den-b.num*a.den) (a.den*b.den) (by have:=Int.mul_pos (qzc a) (qzc b);omega) (by omega) (by omega)
 have e:Rat.divInt (a.num*b.den-b.num*a.den) ((a.den:Int)*(b.den:Int))=a-b:=by
  rw[Rat.sub_def',←Rat.divInt_ofNat];simp
 rw[e] at hL
 simp only[STD,hc,cS,vk,qh,List.length_cons,List.length_nil,Int.toNat_zero,List.getD_cons_zero,U.toS,show (1:Int).toNat=1 from rfl,show (2:Int).toNat=2 from rfl,List.getD_cons_succ,hP,hL]
 simp[]
theorem vt{a b:Rat}(ha:sm 100000 a)(hb:sm 100000 b):(qR [.s (tQ a),.s (tQ b)]).run=some (0,[.s (tQ (a*b))]):=by
 rw[quK]
 obtain⟨h1,h2⟩:=ha
 obtain⟨h3,h4⟩:=hb
 have hc:=qjc a b (by omega) (by omega) (by omega) (by omega)
 simp only[qn,qd] at h1 h2 h3 h4
 have l1:=yU a.num b.num
 have l3:=yU a.den b.den
 rw[qim,qim] at l3
 have hL:=qmN (a.num*b.num) (a.den*b.den) (by have:=Int.mul_pos (qzc a) (qzc b);omega) (by omega) (by omega)
 have e:Rat.divInt (a.num*b.num) ((a.den:Int)*(b.den:Int))=a*b:=by
  rw[Rat.mul_def',←Rat.divInt_ofNat];simp
 rw[e] at hL
 simp only[STD,hc,cS,vk,qh,List.length_cons,List.length_nil,U.toS,show (3:Int).toNat=3 from rfl,show (2:Int).toNat=2 from rfl,List.getD_cons_succ,List.getD_cons_zero,hL]
 simp[]
theorem quQ{a b:Rat}(hb0:b≠0)(ha:sm 100000 a)(hb:sm 100000 b):(qbL [.s (tQ a),.s (tQ b)]).run=some (0,[.s (tQ (a/b))]):=by
 rw[qzN]
 obtain⟨h1,h2⟩:=ha
 obtain⟨h3,h4⟩:=hb
 have hc:=qjc a b (by omega) (by omega) (by omega) (by omega)
 simp only[qn,qd] at h1 h2 h3 h4
 have l1:=yU a.num b.den
 have l3:=yU a.den b.num
 rw[qim] at l1 l3
 have hbn:b.num≠0:=fun h=>hb0 (Rat.num_eq_zero.1 h)
 have hL:=qmN (a.num*b.den) (a.den*b.num) (by have:=qzc a;exact Int.mul_ne_zero (by omega) hbn) (by omega) (by omega)
 have e:Rat.divInt (a.num*b.den) ((a.den:Int)*b.num)=a/b:=by
  rw[Rat.div_def,Rat.inv_def,←Rat.divInt_mul_divInt,Rat.num_divInt_den]
 rw[e] at hL
 simp only[STD,hc,cS,vk,qh,List.length_cons,List.length_nil,U.toS,Int.toNat_zero,show (4:Int).toNat=4 from rfl,List.getD_cons_succ,List.getD_cons_zero,hL]
 simp[]
theorem qod{a b:Rat}(ha:sm 100000 a)(hb:sm 100000 b):(q1E [.s (tQ a),.s (tQ b)]).run=some (0,[.i (sgq (a-b))]):=by
 rw[qud]
 obtain⟨h1,h2⟩:=ha
 obtain⟨h3,h4⟩:=hb
 have hc:=qjc a b (by omega) (by omega) (by omega) (by omega)
 simp only[qn,qd] at h1 h2 h3 h4
 have l1:=yU a.num b.den
 have l2:=yU b.num a.den
 rw[qim] at l1 l2
 have hP:=qgW (a.num*b.den) (b.num*a.den) (by omega) (by omega)
 rw[←qHF] at hP
 simp only[STD,hc,cS,vk,qh,List.length_cons,List.length_nil,U.toS,Int.toNat_zero,show (1:Int).toNat=1 from rfl,List.getD_cons_succ,List.getD_cons_zero,hP]
 simp[]
theorem q5m{a:Rat}(ha:sm 100000 a):(ww [.s (tQ a)]).run=some (0,[.i (sgq a)]):=by
 rw[qt0]
 obtain⟨h1,h2⟩:=ha
 have hP:=qgW a.num 0 (by unfold qn at h1;omega) (by decide)
 rw[Int.sub_zero,show tI 0=[48] from rfl] at hP
 simp only[STD,qwy a (by omega) (by omega),hP]
 rfl
theorem qHw(K:Nat):sm (K+1) 0:=⟨by show 1≤K+1;omega,by show 1≤K+1;omega⟩
theorem qe5{a:Rat}(ha:sm 100000 a):(uo [.s (tQ a)]).run=some (0,[.s (tQ (-a))]):=by
 rw[qtA]
 have h:=q4t (a:=0) (b:=a) (qHw 99999) ha
 rw[show tQ 0=[48] from rfl,show (0:Rat)-a=-a by grind] at h
 simp only[STD,h]
def qhd(a b c:Rat):Int:=if 0≤sgq a*(sgq b*sgq c) then (if sgq a=0 then sgq b*sgq c else sgq a) else sgq a*sgq (a*a-b*b*c)
theorem qiR(q:Rat):-1≤sgq q∧sgq q≤1:=by rcases q6H q with⟨_,e⟩|⟨_,e⟩|⟨_,e⟩<;>rw[e]<;>decide
theorem qIV{x y:Int}(hx:-1≤x∧x≤1)(hy:-1≤y∧y≤1):-1≤x*y∧x*y≤1:=by
 have:=qGv (A:=1) (B:=1) hx.1 hx.2 hy.1 hy.2
 omega
theorem qg2{x y:Int}(hx:-1≤x∧x≤1)(hy:-1≤y∧y≤1):ux .i64 x y=x*y:=q2L (by have:=qIV hx hy;omega)
theorem qxR{K L:Nat}{a b:Rat}(ha:sm K a)(hb:sm L b):sm (K+L) (a*b):=
 ⟨Nat.le_trans (qEd a b) (Nat.add_le_add ha.1 hb.1),Nat.le_trans (qEm a b) (Nat.add_le_add ha.2 hb.2)⟩
theorem q1Z{K L:Nat}{a:Rat}(ha:sm K a)(h:K≤L):sm L a:=⟨Nat.le_trans ha.1 h,Nat.le_trans ha.2 h⟩
theorem qxL{a b c:Rat}(ha:sm 30000 a)(hb:sm 30000 b)(hc:sm 30000 c):(q9S [.s (tQ a),.s (tQ b),.s (tQ c)]).run=some (0,[.i (qhd a b c)]):=by
 rw[qx8]
 have ba:=qiR a
 have bb:=qiR b
 have bc:=qiR c
 have bd:=qiR (a*a-b*b*c)
 have h1:=vt (q1Z ha (by omega)) (q1Z ha (by omega))
 have h2:=vt (q1Z hb (by omega)) (q1Z hb (by omega))
 have hbb:=qxR hb hb
 have h3:=vt (a:=b*b) (b:=c) (q1Z hbb (by omega)) (q1Z hc (by omega))
 have h4:=qod (a:=a*a) (b:=b*b*c) (q1Z (qxR ha ha) (by omega)) (q1Z (qxR hbb hc) (by omega))
 simp only[STD,q5m (q1Z ha (show 30000≤100000 by omega)),q5m (q1Z hb (show 30000≤100000 by omega)),q5m (q1Z hc (show 30000≤100000 by omega)),
  qg2 bb bc,qg2 ba (qIV bb bc),h1,h2,h3,h4,qg2 ba bd]
 unfold qhd
 split
 ·split<;>rfl
 ·rfl
end Go.Eng

