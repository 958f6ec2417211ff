/- Texts of the proof, merged: what the code computes, and plain laws. No statement stands here. -/
import Derived.OpenShut
import Derived.Deep.Slices
import Derived.SizedLaws
import Derived.Below
import Derived.Lib.LaidTab
import Derived.Test.YtflobilbbfefaaaGreatDoorH3
namespace Go.Eng
theorem q7M(x0:List UInt8)(x1:List UInt8):zV [.s x0,.s x1]=(let r0:TR:=(vb [(.s x0),(.s x1)])
 .br (okR r0) (.br (ile 0 (gI r0 0)) (.br (q4Y (gI r0 0) (qm x0)) (.br (q4Y 0 (gI r0 0)) (.br (q4Y (qm x0) (qm x0)) (.br (q4Y (qh .i64 (gI r0 0) (qm x1)) (qm x0)) (.leaf (0,[(.s (q8i x0 0 (gI r0 0))),(.s (q8i x0 (qh .i64 (gI r0 0) (qm x1)) (qm x0))),(.b true)])) .fail) .fail) .fail) .fail) (.leaf (0,[(.s x0),(.s []),(.b false)]))) .fail):=by kernel_rfl
theorem qkW(x0:List UInt8)(x1:List UInt8):q49 [.s x0,.s x1]=(let r0:TR:=(zV [(.s x0),(.s x1)])
 .br (okR r0) (.leaf (0,[(.s (gS r0 0)),(.s (gS r0 1)),(.b (gB r0 2))])) .fail):=by kernel_rfl
theorem qok(x0:List UInt8):qK [.s x0]=(let r0:TR:=(q49 [(.s x0),(.s [47])])
 .br (okR r0) (.br (not (gB r0 2)) (.leaf (0,[(.s (gS r0 0)),(.s [49]),(.b (gB r0 2))])) (.leaf (0,[(.s (gS r0 0)),(.s (gS r0 1)),(.b (gB r0 2))]))) .fail):=by kernel_rfl
theorem q3E(x0:List UInt8)(x1:List UInt8):qE [.s x0,.s x1]=(.br (ile (qm x1) (qm x0)) (.br (q4Y (qm x1) (qm x0)) (.br (q4Y 0 (qm x1)) (.leaf (0,[(.b (seq (q8i x0 0 (qm x1)) x1))])) .fail) .fail) (.leaf (0,[(.b false)]))):=by kernel_rfl
theorem q3i(x0:List UInt8)(x1:List UInt8):zb [.s x0,.s x1]=(let r0:TR:=(qE [(.s x0),(.s x1)])
 .br (okR r0) (.br (gB r0 0) (.br (q4Y (qm x0) (qm x0)) (.br (q4Y (qm x1) (qm x0)) (.leaf (0,[(.s (q8i x0 (qm x1) (qm x0)))])) .fail) .fail) (.leaf (0,[(.s x0)]))) .fail):=by kernel_rfl
theorem qcx(x0:List UInt8)(x1:List UInt8):qN [.s x0,.s x1]=(let r0:TR:=(zb [(.s x0),(.s x1)])
 .br (okR r0) (.leaf (0,[(.s (gS r0 0))])) .fail):=by kernel_rfl
theorem ql1(x0:List UInt8):z6 [.s x0]=(let r0:TR:=(qN [(.s x0),(.s [45])])
 .br (okR r0) (.br (seq (gS r0 0) []) (.leaf (0,[(.i 3)])) (let r1:TR:=(q5b [(.s (gS r0 0)),(.s [48,49,50,51,52,53,54,55,56,57])])
 .br (okR r1) (.br (not (seq (gS r1 0) [])) (.leaf (0,[(.i 3)])) (.br (inb 0 (qm (gS r0 0))) (.br (ieq (sat (gS r0 0) 0) 48) (.br (not (seq x0 [48])) (.leaf (0,[(.i 3)])) (.br (ilt 1024 (qm (gS r0 0))) (.leaf (0,[(.i 11)])) (.leaf (0,[(.i 0)])))) (.br (ilt 1024 (qm (gS r0 0))) (.leaf (0,[(.i 11)])) (.leaf (0,[(.i 0)])))) .fail)) .fail)) .fail):=by kernel_rfl
theorem qdt(y0:R)(y1:Int)(y2:Int):q3F [.r y0,.i y1,.i y2]=(.br (ilt y2 y1) (.br (inb y2 (qt y0)) (let r0:TR:=(z6 [(.s (cS y0 y2 0))])
 .br (okR r0) (.br (ine (gI r0 0) 0) (.leaf (2,[(.i (gI r0 0))])) (.leaf (0,[(.r y0),(.i y1),(.i (qh .i64 y2 1))]))) .fail) .fail) (.leaf (1,[]))):=by kernel_rfl
theorem qo8(x0:R):zE [.r x0]=(let r0:TR:=(qj q3F [(.r x0),(.i (qt x0)),(.i 0)])
 .br (okR r0) (.br (jIs r0 0) (.leaf (0,[(.i 0)])) (.leaf (0,[(.i (gI r0 0))]))) .fail):=by kernel_rfl
theorem qn7(x0:List UInt8):jU [.s x0]=(.br (seq x0 [48]) (.leaf (0,[(.i 0)])) (.br (inb 0 (qm x0)) (.br (ieq (sat x0 0) 45) (.leaf (0,[(.i (-1))])) (.leaf (0,[(.i 1)]))) .fail)):=by kernel_rfl
theorem qkO(x0:List UInt8)(x1:List UInt8):q3R [.s x0,.s x1]=(.br (ine (qm x0) (qm x1)) (.br (ilt (qm x0) (qm x1)) (.leaf (0,[(.i (-1))])) (.leaf (0,[(.i 1)]))) (let r0:TR:=(q1s [(.s x0),(.s x1)])
 .br (okR r0) (.leaf (0,[(.i (gI r0 0))])) .fail)):=by kernel_rfl
theorem qi8(x0:List UInt8)(x1:List UInt8):q1n [.s x0,.s x1]=(let r0:TR:=(zE [(.r [[(.s x0)],[(.s x1)]])])
 .br (okR r0) (.br (ine (gI r0 0) 0) (.leaf (0,[(.i 0),(.i (gI r0 0))])) (let r1:TR:=(jU [(.s x0)])
 .br (okR r1) (let r2:TR:=(jU [(.s x1)])
 .br (okR r2) (.br (ilt (gI r1 0) (gI r2 0)) (.leaf (0,[(.i (-1)),(.i 0)])) (.br (okR r2) (.br (ilt (gI r2 0) (gI r1 0)) (.leaf (0,[(.i 1),(.i 0)])) (let r3:TR:=(qN [(.s x0),(.s [45])])
 .br (okR r3) (let r4:TR:=(qN [(.s x1),(.s [45])])
 .br (okR r4) (let r5:TR:=(q3R [(.s (gS r3 0)),(.s (gS r4 0))])
 .br (okR r5) (.leaf (0,[(.i (kK .i64 (gI r1 0) (gI r5 0))),(.i 0)])) .fail) .fail) .fail)) .fail)) .fail) .fail)) .fail):=by kernel_rfl
theorem qpx(x0:Int):wU [.i x0]=(.br (okR (q2f [(.i x0)])) (.leaf (0,[(.s (gS (q2f [(.i x0)]) 0))])) .fail):=by kernel_rfl
theorem qa8(y0:Bool)(y1:Int)(y2:R):vJ [.b y0,.i y1,.r y2]=(.br (ilt 0 y1) (.br (inb (qz .i64 y1 1) 232) (.br (inb (qz .i64 y1 1) 232) (.br (ieq (cI y2 (qz .i64 y1 1) 0) 0) (.leaf (0,[(.b y0),(.i (qz .i64 y1 1)),(.r y2)])) (.leaf (1,[(.b y0),(.i y1),(.r y2)]))) .fail) .fail) (.leaf (1,[(.b y0),(.i y1),(.r y2)]))):=by kernel_rfl
theorem qcw(x0:Bool)(x1:Int)(x2:R):qv [.b x0,.i x1,.r x2]=(let r0:TR:=(qj vJ [(.b x0),(.i x1),(.r x2)])
 .br (okR r0) (.leaf (0,[(.b (gB r0 0)),(.i (gI r0 1)),(.r (gR r0 2))])) .fail):=by kernel_rfl
theorem qkd(y0:List UInt8)(y1:Bool)(y2:Int)(y3:R):q2k [.s y0,.b y1,.i y2,.r y3]=(.br (ilt 0 (qm y0)) (.br (q4Y (qm y0) (qm y0)) (.br (q4Y (qaM 0 (qz .i64 (qm y0) 9)) (qm y0)) (let r0:TR:=(vg [(.s (q8i y0 (qaM 0 (qz .i64 (qm y0) 9)) (qm y0)))])
 .br (okR r0) (.br (inb y2 232) (.br (inb y2 232) (.br (q4Y (qaM 0 (qz .i64 (qm y0) 9)) (qm y0)) (.br (q4Y 0 (qaM 0 (qz .i64 (qm y0) 9))) (.leaf (0,[(.s (q8i y0 0 (qaM 0 (qz .i64 (qm y0) 9)))),(.b y1),(.i (qh .i64 y2 1)),(.r (q9X y3 y2 0 [(.i (gI r0 0))]))])) .fail) .fail) .fail) .fail) .fail) .fail) .fail) (.leaf (1,[(.b y1),(.i y2),(.r y3)]))):=by kernel_rfl
theorem qn9(x0:List UInt8):zr [.s x0]=(.br (inb 0 (qm x0)) (let r0:TR:=(qN [(.s x0),(.s [45])])
 .br (okR r0) (let r1:TR:=(qj q2k [(.s (gS r0 0)),(.b (ieq (sat x0 0) 45)),(.i 0),(.r (q21 232 [(.i 0)]))])
 .br (okR r1) (let r2:TR:=(qv [(.b (gB r1 0)),(.i (gI r1 1)),(.r (gR r1 2))])
 .br (okR r2) (.leaf (0,[(.b (gB r2 0)),(.i (gI r2 1)),(.r (gR r2 2))])) .fail) .fail) .fail) .fail):=by kernel_rfl
theorem qbr(y0:Int)(y1:Bool)(y2:Int)(y3:R)(y4:Bool)(y5:Int)(y6:R):j6 [.i y0,.b y1,.i y2,.r y3,.b y4,.i y5,.r y6]=(.br (ile 0 y0) (.br (inb y0 232) (.br (inb y0 232) (.br (inb y0 232) (.br (inb y0 232) (.br (ine (cI y3 y0 0) (cI y6 y0 0)) (.br (inb y0 232) (.br (inb y0 232) (.br (inb y0 232) (.br (inb y0 232) (.leaf (2,[(.i (qz .i64 (cI y3 y0 0) (cI y6 y0 0))),(.b y1),(.i y2),(.r y3),(.b y4),(.i y5),(.r y6)])) .fail) .fail) .fail) .fail) (.leaf (0,[(.i (qz .i64 y0 1)),(.b y1),(.i y2),(.r y3),(.b y4),(.i y5),(.r y6)]))) .fail) .fail) .fail) .fail) (.leaf (1,[(.b y1),(.i y2),(.r y3),(.b y4),(.i y5),(.r y6)]))):=by kernel_rfl
theorem qdb(x0:Bool)(x1:Int)(x2:R)(x3:Bool)(x4:Int)(x5:R):zu [.b x0,.i x1,.r x2,.b x3,.i x4,.r x5]=(.br (ine x1 x4) (.leaf (0,[(.i (qz .i64 x1 x4)),(.b x0),(.i x1),(.r x2),(.b x3),(.i x4),(.r x5)])) (let r0:TR:=(qj j6 [(.i (qz .i64 x1 1)),(.b x0),(.i x1),(.r x2),(.b x3),(.i x4),(.r x5)])
 .br (okR r0) (.br (jIs r0 0) (.leaf (0,[(.i 0),(.b (gB r0 0)),(.i (gI r0 1)),(.r (gR r0 2)),(.b (gB r0 3)),(.i (gI r0 4)),(.r (gR r0 5))])) (.leaf (0,[(.i (gI r0 0)),(.b (gB r0 1)),(.i (gI r0 2)),(.r (gR r0 3)),(.b (gB r0 4)),(.i (gI r0 5)),(.r (gR r0 6))]))) .fail)):=by kernel_rfl
theorem qgr(x0:Bool)(x1:Int)(x2:R)(x3:Bool)(x4:Int)(x5:R):js [.b x0,.i x1,.r x2,.b x3,.i x4,.r x5]=(.br (ilt x4 0) (.br (ilt (qz .i64 x4 1) 0) (.br (ilt (qz .i64 x4 1) 0) (.br (ilt 1 x4) (.leaf (0,[(.i 1),(.b x0),(.i x1),(.r x2),(.b x3),(.i x4),(.r x5)])) .fail) (.br (ile x4 (qz .i64 x4 1)) (.br (ilt 1 x4) (.leaf (0,[(.i 1),(.b x0),(.i x1),(.r x2),(.b x3),(.i x4),(.r x5)])) .fail) (.br (inb (qz .i64 x4 1) 232) (.br (inb (qz .i64 x4 1) 232) (.br (ilt 1 x4) (.br (ine (qh .i64 (cI x5 (qz .i64 x4 1) 0) 1) 0) (.br (ilt 0 (jP .i64 0 (qh .i64 (cI x5 (qz .i64 x4 1) 0) 1))) (.leaf (0,[(.i (q61 (jP .i64 0 (qh .i64 (cI x5 (qz .i64 x4 1) 0) 1)) 999999999)),(.b x0),(.i x1),(.r x2),(.b x3),(.i x4),(.r x5)])) (.leaf (0,[(.i 1),(.b x0),(.i x1),(.r x2),(.b x3),(.i x4),(.r x5)]))) .fail) (.br (ine (cI x5 (qz .i64 x4 1) 0) 0) (.br (ilt 0 (jP .i64 0 (cI x5 (qz .i64 x4 1) 0))) (.leaf (0,[(.i (q61 (jP .i64 0 (cI x5 (qz .i64 x4 1) 0)) 999999999)),(.b x0),(.i x1),(.r x2),(.b x3),(.i x4),(.r x5)])) (.leaf (0,[(.i 1),(.b x0),(.i x1),(.r x2),(.b x3),(.i x4),(.r x5)]))) .fail)) .fail) .fail))) (.br (ile x1 (qz .i64 x4 1)) (.br (ilt (qz .i64 x4 1) 0) (.br (ilt 1 x4) (.leaf (0,[(.i 1),(.b x0),(.i x1),(.r x2),(.b x3),(.i x4),(.r x5)])) .fail) (.br (ile x4 (qz .i64 x4 1)) (.br (ilt 1 x4) (.leaf (0,[(.i 1),(.b x0),(.i x1),(.r x2),(.b x3),(.i x4),(.r x5)])) .fail) (.br (inb (qz .i64 x4 1) 232) (.br (inb (qz .i64 x4 1) 232) (.br (ilt 1 x4) (.br (ine (qh .i64 (cI x5 (qz .i64 x4 1) 0) 1) 0) (.br (ilt 0 (jP .i64 0 (qh .i64 (cI x5 (qz .i64 x4 1) 0) 1))) (.leaf (0,[(.i (q61 (jP .i64 0 (qh .i64 (cI x5 (qz .i64 x4 1) 0) 1)) 999999999)),(.b x0),(.i x1),(.r x2),(.b x3),(.i x4),(.r x5)])) (.leaf (0,[(.i 1),(.b x0),(.i x1),(.r x2),(.b x3),(.i x4),(.r x5)]))) .fail) (.br (ine (cI x5 (qz .i64 x4 1) 0) 0) (.br (ilt 0 (jP .i64 0 (cI x5 (qz .i64 x4 1) 0))) (.leaf (0,[(.i (q61 (jP .i64 0 (cI x5 (qz .i64 x4 1) 0)) 999999999)),(.b x0),(.i x1),(.r x2),(.b x3),(.i x4),(.r x5)])) (.leaf (0,[(.i 1),(.b x0),(.i x1),(.r x2),(.b x3),(.i x4),(.r x5)]))) .fail)) .fail) .fail))) (.br (inb (qz .i64 x4 1) 232) (.br (inb (qz .i64 x4 1) 232) (.br (ilt (qz .i64 x4 1) 0) (.br (ilt 1 x4) (.br (ilt 0 (jP .i64 (qh .i64 0 (cI x2 (qz .i64 x4 1) 0)) 1)) (.leaf (0,[(.i (q61 (jP .i64 (qh .i64 0 (cI x2 (qz .i64 x4 1) 0)) 1) 999999999)),(.b x0),(.i x1),(.r x2),(.b x3),(.i x4),(.r x5)])) (.leaf (0,[(.i 1),(.b x0),(.i x1),(.r x2),(.b x3),(.i x4),(.r x5)]))) .fail) (.br (ile x4 (qz .i64 x4 1)) (.br (ilt 1 x4) (.br (ilt 0 (jP .i64 (qh .i64 0 (cI x2 (qz .i64 x4 1) 0)) 1)) (.leaf (0,[(.i (q61 (jP .i64 (qh .i64 0 (cI x2 (qz .i64 x4 1) 0)) 1) 999999999)),(.b x0),(.i x1),(.r x2),(.b x3),(.i x4),(.r x5)])) (.leaf (0,[(.i 1),(.b x0),(.i x1),(.r x2),(.b x3),(.i x4),(.r x5)]))) .fail) (.br (inb (qz .i64 x4 1) 232) (.br (inb (qz .i64 x4 1) 232) (.br (ilt 1 x4) (.br (ine (qh .i64 (cI x5 (qz .i64 x4 1) 0) 1) 0) (.br (ilt 0 (jP .i64 (qh .i64 0 (cI x2 (qz .i64 x4 1) 0)) (qh .i64 (cI x5 (qz .i64 x4 1) 0) 1))) (.leaf (0,[(.i (q61 (jP .i64 (qh .i64 0 (cI x2 (qz .i64 x4 1) 0)) (qh .i64 (cI x5 (qz .i64 x4 1) 0) 1)) 999999999)),(.b x0),(.i x1),(.r x2),(.b x3),(.i x4),(.r x5)])) (.leaf (0,[(.i 1),(.b x0),(.i x1),(.r x2),(.b x3),(.i x4),(.r x5)]))) .fail) (.br (ine (cI x5 (qz .i64 x4 1) 0) 0) (.br (ilt 0 (jP .i64 (qh .i64 0 (cI x2 (qz .i64 x4 1) 0)) (cI x5 (qz .i64 x4 1) 0))) (.leaf (0,[(.i (q61 (jP .i64 (qh .i64 0 (cI x2 (qz .i64 x4 1) 0)) (cI x5 (qz .i64 x4 1) 0)) 999999999)),(.b x0),(.i x1),(.r x2),(.b x3),(.i x4),(.r x5)])) (.leaf (0,[(.i 1),(.b x0),(.i x1),(.r x2),(.b x3),(.i x4),(.r x5)]))) .fail)) .fail) .fail))) .fail) .fail))) (.br (ile x1 x4) (.br (ilt (qz .i64 x4 1) 0) (.br (ilt (qz .i64 x4 1) 0) (.br (ilt 1 x4) (.leaf (0,[(.i 1),(.b x0),(.i x1),(.r x2),(.b x3),(.i x4),(.r x5)])) .fail) (.br (ile x4 (qz .i64 x4 1)) (.br (ilt 1 x4) (.leaf (0,[(.i 1),(.b x0),(.i x1),(.r x2),(.b x3),(.i x4),(.r x5)])) .fail) (.br (inb (qz .i64 x4 1) 232) (.br (inb (qz .i64 x4 1) 232) (.br (ilt 1 x4) (.br (ine (qh .i64 (cI x5 (qz .i64 x4 1) 0) 1) 0) (.br (ilt 0 (jP .i64 0 (qh .i64 (cI x5 (qz .i64 x4 1) 0) 1))) (.leaf (0,[(.i (q61 (jP .i64 0 (qh .i64 (cI x5 (qz .i64 x4 1) 0) 1)) 999999999)),(.b x0),(.i x1),(.r x2),(.b x3),(.i x4),(.r x5)])) (.leaf (0,[(.i 1),(.b x0),(.i x1),(.r x2),(.b x3),(.i x4),(.r x5)]))) .fail) (.br (ine (cI x5 (qz .i64 x4 1) 0) 0) (.br (ilt 0 (jP .i64 0 (cI x5 (qz .i64 x4 1) 0))) (.leaf (0,[(.i (q61 (jP .i64 0 (cI x5 (qz .i64 x4 1) 0)) 999999999)),(.b x0),(.i x1),(.r x2),(.b x3),(.i x4),(.r x5)])) (.leaf (0,[(.i 1),(.b x0),(.i x1),(.r x2),(.b x3),(.i x4),(.r x5)]))) .fail)) .fail) .fail))) (.br (ile x1 (qz .i64 x4 1)) (.br (ilt (qz .i64 x4 1) 0) (.br (ilt 1 x4) (.leaf (0,[(.i 1),(.b x0),(.i x1),(.r x2),(.b x3),(.i x4),(.r x5)])) .fail) (.br (ile x4 (qz .i64 x4 1)) (.br (ilt 1 x4) (.leaf (0,[(.i 1),(.b x0),(.i x1),(.r x2),(.b x3),(.i x4),(.r x5)])) .fail) (.br (inb (qz .i64 x4 1) 232) (.br (inb (qz .i64 x4 1) 232) (.br (ilt 1 x4) (.br (ine (qh .i64 (cI x5 (qz .i64 x4 1) 0) 1) 0) (.br (ilt 0 (jP .i64 0 (qh .i64 (cI x5 (qz .i64 x4 1) 0) 1))) (.leaf (0,[(.i (q61 (jP .i64 0 (qh .i64 (cI x5 (qz .i64 x4 1) 0) 1)) 999999999)),(.b x0),(.i x1),(.r x2),(.b x3),(.i x4),(.r x5)])) (.leaf (0,[(.i 1),(.b x0),(.i x1),(.r x2),(.b x3),(.i x4),(.r x5)]))) .fail) (.br (ine (cI x5 (qz .i64 x4 1) 0) 0) (.br (ilt 0 (jP .i64 0 (cI x5 (qz .i64 x4 1) 0))) (.leaf (0,[(.i (q61 (jP .i64 0 (cI x5 (qz .i64 x4 1) 0)) 999999999)),(.b x0),(.i x1),(.r x2),(.b x3),(.i x4),(.r x5)])) (.leaf (0,[(.i 1),(.b x0),(.i x1),(.r x2),(.b x3),(.i x4),(.r x5)]))) .fail)) .fail) .fail))) (.br (inb (qz .i64 x4 1) 232) (.br (inb (qz .i64 x4 1) 232) (.br (ilt (qz .i64 x4 1) 0) (.br (ilt 1 x4) (.br (ilt 0 (jP .i64 (qh .i64 0 (cI x2 (qz .i64 x4 1) 0)) 1)) (.leaf (0,[(.i (q61 (jP .i64 (qh .i64 0 (cI x2 (qz .i64 x4 1) 0)) 1) 999999999)),(.b x0),(.i x1),(.r x2),(.b x3),(.i x4),(.r x5)])) (.leaf (0,[(.i 1),(.b x0),(.i x1),(.r x2),(.b x3),(.i x4),(.r x5)]))) .fail) (.br (ile x4 (qz .i64 x4 1)) (.br (ilt 1 x4) (.br (ilt 0 (jP .i64 (qh .i64 0 (cI x2 (qz .i64 x4 1) 0)) 1)) (.leaf (0,[(.i (q61 (jP .i64 (qh .i64 0 (cI x2 (qz .i64 x4 1) 0)) 1) 999999999)),(.b x0),(.i x1),(.r x2),(.b x3),(.i x4),(.r x5)])) (.leaf (0,[(.i 1),(.b x0),(.i x1),(.r x2),(.b x3),(.i x4),(.r x5)]))) .fail) (.br (inb (qz .i64 x4 1) 232) (.br (inb (qz .i64 x4 1) 232) (.br (ilt 1 x4) (.br (ine (qh .i64 (cI x5 (qz .i64 x4 1) 0) 1) 0) (.br (ilt 0 (jP .i64 (qh .i64 0 (cI x2 (qz .i64 x4 1) 0)) (qh .i64 (cI x5 (qz .i64 x4 1) 0) 1))) (.leaf (0,[(.i (q61 (jP .i64 (qh .i64 0 (cI x2 (qz .i64 x4 1) 0)) (qh .i64 (cI x5 (qz .i64 x4 1) 0) 1)) 999999999)),(.b x0),(.i x1),(.r x2),(.b x3),(.i x4),(.r x5)])) (.leaf (0,[(.i 1),(.b x0),(.i x1),(.r x2),(.b x3),(.i x4),(.r x5)]))) .fail) (.br (ine (cI x5 (qz .i64 x4 1) 0) 0) (.br (ilt 0 (jP .i64 (qh .i64 0 (cI x2 (qz .i64 x4 1) 0)) (cI x5 (qz .i64 x4 1) 0))) (.leaf (0,[(.i (q61 (jP .i64 (qh .i64 0 (cI x2 (qz .i64 x4 1) 0)) (cI x5 (qz .i64 x4 1) 0)) 999999999)),(.b x0),(.i x1),(.r x2),(.b x3),(.i x4),(.r x5)])) (.leaf (0,[(.i 1),(.b x0),(.i x1),(.r x2),(.b x3),(.i x4),(.r x5)]))) .fail)) .fail) .fail))) .fail) .fail))) (.br (inb x4 232) (.br (inb x4 232) (.br (ilt (qz .i64 x4 1) 0) (.br (ilt (qz .i64 x4 1) 0) (.br (ilt 1 x4) (.br (ilt 0 (jP .i64 (qh .i64 (kK .i64 (cI x2 x4 0) 1000000000) 0) 1)) (.leaf (0,[(.i (q61 (jP .i64 (qh .i64 (kK .i64 (cI x2 x4 0) 1000000000) 0) 1) 999999999)),(.b x0),(.i x1),(.r x2),(.b x3),(.i x4),(.r x5)])) (.leaf (0,[(.i 1),(.b x0),(.i x1),(.r x2),(.b x3),(.i x4),(.r x5)]))) .fail) (.br (ile x4 (qz .i64 x4 1)) (.br (ilt 1 x4) (.br (ilt 0 (jP .i64 (qh .i64 (kK .i64 (cI x2 x4 0) 1000000000) 0) 1)) (.leaf (0,[(.i (q61 (jP .i64 (qh .i64 (kK .i64 (cI x2 x4 0) 1000000000) 0) 1) 999999999)),(.b x0),(.i x1),(.r x2),(.b x3),(.i x4),(.r x5)])) (.leaf (0,[(.i 1),(.b x0),(.i x1),(.r x2),(.b x3),(.i x4),(.r x5)]))) .fail) (.br (inb (qz .i64 x4 1) 232) (.br (inb (qz .i64 x4 1) 232) (.br (ilt 1 x4) (.br (ine (qh .i64 (cI x5 (qz .i64 x4 1) 0) 1) 0) (.br (ilt 0 (jP .i64 (qh .i64 (kK .i64 (cI x2 x4 0) 1000000000) 0) (qh .i64 (cI x5 (qz .i64 x4 1) 0) 1))) (.leaf (0,[(.i (q61 (jP .i64 (qh .i64 (kK .i64 (cI x2 x4 0) 1000000000) 0) (qh .i64 (cI x5 (qz .i64 x4 1) 0) 1)) 999999999)),(.b x0),(.i x1),(.r x2),(.b x3),(.i x4),(.r x5)])) (.leaf (0,[(.i 1),(.b x0),(.i x1),(.r x2),(.b x3),(.i x4),(.r x5)]))) .fail) (.br (ine (cI x5 (qz .i64 x4 1) 0) 0) (.br (ilt 0 (jP .i64 (qh .i64 (kK .i64 (cI x2 x4 0) 1000000000) 0) (cI x5 (qz .i64 x4 1) 0))) (.leaf (0,[(.i (q61 (jP .i64 (qh .i64 (kK .i64 (cI x2 x4 0) 1000000000) 0) (cI x5 (qz .i64 x4 1) 0)) 999999999)),(.b x0),(.i x1),(.r x2),(.b x3),(.i x4),(.r x5)])) (.leaf (0,[(.i 1),(.b x0),(.i x1),(.r x2),(.b x3),(.i x4),(.r x5)]))) .fail)) .fail) .fail))) (.br (ile x1 (qz .i64 x4 1)) (.br (ilt (qz .i64 x4 1) 0) (.br (ilt 1 x4) (.br (ilt 0 (jP .i64 (qh .i64 (kK .i64 (cI x2 x4 0) 1000000000) 0) 1)) (.leaf (0,[(.i (q61 (jP .i64 (qh .i64 (kK .i64 (cI x2 x4 0) 1000000000) 0) 1) 999999999)),(.b x0),(.i x1),(.r x2),(.b x3),(.i x4),(.r x5)])) (.leaf (0,[(.i 1),(.b x0),(.i x1),(.r x2),(.b x3),(.i x4),(.r x5)]))) .fail) (.br (ile x4 (qz .i64 x4 1)) (.br (ilt 1 x4) (.br (ilt 0 (jP .i64 (qh .i64 (kK .i64 (cI x2 x4 0) 1000000000) 0) 1)) (.leaf (0,[(.i (q61 (jP .i64 (qh .i64 (kK .i64 (cI x2 x4 0) 1000000000) 0) 1) 999999999)),(.b x0),(.i x1),(.r x2),(.b x3),(.i x4),(.r x5)])) (.leaf (0,[(.i 1),(.b x0),(.i x1),(.r x2),(.b x3),(.i x4),(.r x5)]))) .fail) (.br (inb (qz .i64 x4 1) 232) (.br (inb (qz .i64 x4 1) 232) (.br (ilt 1 x4) (.br (ine (qh .i64 (cI x5 (qz .i64 x4 1) 0) 1) 0) (.br (ilt 0 (jP .i64 (qh .i64 (kK .i64 (cI x2 x4 0) 1000000000) 0) (qh .i64 (cI x5 (qz .i64 x4 1) 0) 1))) (.leaf (0,[(.i (q61 (jP .i64 (qh .i64 (kK .i64 (cI x2 x4 0) 1000000000) 0) (qh .i64 (cI x5 (qz .i64 x4 1) 0) 1)) 999999999)),(.b x0),(.i x1),(.r x2),(.b x3),(.i x4),(.r x5)])) (.leaf (0,[(.i 1),(.b x0),(.i x1),(.r x2),(.b x3),(.i x4),(.r x5)]))) .fail) (.br (ine (cI x5 (qz .i64 x4 1) 0) 0) (.br (ilt 0 (jP .i64 (qh .i64 (kK .i64 (cI x2 x4 0) 1000000000) 0) (cI x5 (qz .i64 x4 1) 0))) (.leaf (0,[(.i (q61 (jP .i64 (qh .i64 (kK .i64 (cI x2 x4 0) 1000000000) 0) (cI x5 (qz .i64 x4 1) 0)) 999999999)),(.b x0),(.i x1),(.r x2),(.b x3),(.i x4),(.r x5)])) (.leaf (0,[(.i 1),(.b x0),(.i x1),(.r x2),(.b x3),(.i x4),(.r x5)]))) .fail)) .fail) .fail))) (.br (inb (qz .i64 x4 1) 232) (.br (inb (qz .i64 x4 1) 232) (.br (ilt (qz .i64 x4 1) 0) (.br (ilt 1 x4) (.br (ilt 0 (jP .i64 (qh .i64 (kK .i64 (cI x2 x4 0) 1000000000) (cI x2 (qz .i64 x4 1) 0)) 1)) (.leaf (0,[(.i (q61 (jP .i64 (qh .i64 (kK .i64 (cI x2 x4 0) 1000000000) (cI x2 (qz .i64 x4 1) 0)) 1) 999999999)),(.b x0),(.i x1),(.r x2),(.b x3),(.i x4),(.r x5)])) (.leaf (0,[(.i 1),(.b x0),(.i x1),(.r x2),(.b x3),(.i x4),(.r x5)]))) .fail) (.br (ile x4 (qz .i64 x4 1)) (.br (ilt 1 x4) (.br (ilt 0 (jP .i64 (qh .i64 (kK .i64 (cI x2 x4 0) 1000000000) (cI x2 (qz .i64 x4 1) 0)) 1)) (.leaf (0,[(.i (q61 (jP .i64 (qh .i64 (kK .i64 (cI x2 x4 0) 1000000000) (cI x2 (qz .i64 x4 1) 0)) 1) 999999999)),(.b x0),(.i x1),(.r x2),(.b x3),(.i x4),(.r x5)])) (.leaf (0,[(.i 1),(.b x0),(.i x1),(.r x2),(.b x3),(.i x4),(.r x5)]))) .fail) (.br (inb (qz .i64 x4 1) 232) (.br (inb (qz .i64 x4 1) 232) (.br (ilt 1 x4) (.br (ine (qh .i64 (cI x5 (qz .i64 x4 1) 0) 1) 0) (.br (ilt 0 (jP .i64 (qh .i64 (kK .i64 (cI x2 x4 0) 1000000000) (cI x2 (qz .i64 x4 1) 0)) (qh .i64 (cI x5 (qz .i64 x4 1) 0) 1))) (.leaf (0,[(.i (q61 (jP .i64 (qh .i64 (kK .i64 (cI x2 x4 0) 1000000000) (cI x2 (qz .i64 x4 1) 0)) (qh .i64 (cI x5 (qz .i64 x4 1) 0) 1)) 999999999)),(.b x0),(.i x1),(.r x2),(.b x3),(.i x4),(.r x5)])) (.leaf (0,[(.i 1),(.b x0),(.i x1),(.r x2),(.b x3),(.i x4),(.r x5)]))) .fail) (.br (ine (cI x5 (qz .i64 x4 1) 0) 0) (.br (ilt 0 (jP .i64 (qh .i64 (kK .i64 (cI x2 x4 0) 1000000000) (cI x2 (qz .i64 x4 1) 0)) (cI x5 (qz .i64 x4 1) 0))) (.leaf (0,[(.i (q61 (jP .i64 (qh .i64 (kK .i64 (cI x2 x4 0) 1000000000) (cI x2 (qz .i64 x4 1) 0)) (cI x5 (qz .i64 x4 1) 0)) 999999999)),(.b x0),(.i x1),(.r x2),(.b x3),(.i x4),(.r x5)])) (.leaf (0,[(.i 1),(.b x0),(.i x1),(.r x2),(.b x3),(.i x4),(.r x5)]))) .fail)) .fail) .fail))) .fail) .fail))) .fail) .fail))):=by kernel_rfl
theorem q5w(y0:Int)(y1:Int)(y2:Int)(y3:Int)(y4:Bool)(y5:Int)(y6:R)(y7:Bool)(y8:Int)(y9:R):vw [.i y0,.i y1,.i y2,.i y3,.b y4,.i y5,.r y6,.b y7,.i y8,.r y9]=(.br (ilt y3 y8) (.br (inb (qh .i64 y3 y1) 232) (.br (inb (qh .i64 y3 y1) 232) (.br (ilt y3 y8) (.br (inb y3 232) (.br (inb y3 232) (.br (ilt (qz .i64 (qh .i64 (qh .i64 (cI y6 (qh .i64 y3 y1) 0) y2) (kK .i64 y0 (cI y9 y3 0))) (kK .i64 (jP .i64 (qh .i64 (qh .i64 (cI y6 (qh .i64 y3 y1) 0) y2) (kK .i64 y0 (cI y9 y3 0))) 1000000000) 1000000000)) 0) (.br (inb (qh .i64 y3 y1) 232) (.br (inb (qh .i64 y3 y1) 232) (.leaf (0,[(.i y0),(.i y1),(.i (qz .i64 (jP .i64 (qh .i64 (qh .i64 (cI y6 (qh .i64 y3 y1) 0) y2) (kK .i64 y0 (cI y9 y3 0))) 1000000000) 1)),(.i (qh .i64 y3 1)),(.b y4),(.i (qaM y5 (qh .i64 (qh .i64 y3 y1) 1))),(.r (q9X y6 (qh .i64 y3 y1) 0 [(.i (qh .i64 (qz .i64 (qh .i64 (qh .i64 (cI y6 (qh .i64 y3 y1) 0) y2) (kK .i64 y0 (cI y9 y3 0))) (kK .i64 (jP .i64 (qh .i64 (qh .i64 (cI y6 (qh .i64 y3 y1) 0) y2) (kK .i64 y0 (cI y9 y3 0))) 1000000000) 1000000000)) 1000000000))])),(.b y7),(.i y8),(.r y9)])) .fail) .fail) (.br (inb (qh .i64 y3 y1) 232) (.br (inb (qh .i64 y3 y1) 232) (.leaf (0,[(.i y0),(.i y1),(.i (jP .i64 (qh .i64 (qh .i64 (cI y6 (qh .i64 y3 y1) 0) y2) (kK .i64 y0 (cI y9 y3 0))) 1000000000)),(.i (qh .i64 y3 1)),(.b y4),(.i (qaM y5 (qh .i64 (qh .i64 y3 y1) 1))),(.r (q9X y6 (qh .i64 y3 y1) 0 [(.i (qz .i64 (qh .i64 (qh .i64 (cI y6 (qh .i64 y3 y1) 0) y2) (kK .i64 y0 (cI y9 y3 0))) (kK .i64 (jP .i64 (qh .i64 (qh .i64 (cI y6 (qh .i64 y3 y1) 0) y2) (kK .i64 y0 (cI y9 y3 0))) 1000000000) 1000000000)))])),(.b y7),(.i y8),(.r y9)])) .fail) .fail)) .fail) .fail) (.br (ilt (qz .i64 (qh .i64 (cI y6 (qh .i64 y3 y1) 0) y2) (kK .i64 (jP .i64 (qh .i64 (cI y6 (qh .i64 y3 y1) 0) y2) 1000000000) 1000000000)) 0) (.br (inb (qh .i64 y3 y1) 232) (.br (inb (qh .i64 y3 y1) 232) (.leaf (0,[(.i y0),(.i y1),(.i (qz .i64 (jP .i64 (qh .i64 (cI y6 (qh .i64 y3 y1) 0) y2) 1000000000) 1)),(.i (qh .i64 y3 1)),(.b y4),(.i (qaM y5 (qh .i64 (qh .i64 y3 y1) 1))),(.r (q9X y6 (qh .i64 y3 y1) 0 [(.i (qh .i64 (qz .i64 (qh .i64 (cI y6 (qh .i64 y3 y1) 0) y2) (kK .i64 (jP .i64 (qh .i64 (cI y6 (qh .i64 y3 y1) 0) y2) 1000000000) 1000000000)) 1000000000))])),(.b y7),(.i y8),(.r y9)])) .fail) .fail) (.br (inb (qh .i64 y3 y1) 232) (.br (inb (qh .i64 y3 y1) 232) (.leaf (0,[(.i y0),(.i y1),(.i (jP .i64 (qh .i64 (cI y6 (qh .i64 y3 y1) 0) y2) 1000000000)),(.i (qh .i64 y3 1)),(.b y4),(.i (qaM y5 (qh .i64 (qh .i64 y3 y1) 1))),(.r (q9X y6 (qh .i64 y3 y1) 0 [(.i (qz .i64 (qh .i64 (cI y6 (qh .i64 y3 y1) 0) y2) (kK .i64 (jP .i64 (qh .i64 (cI y6 (qh .i64 y3 y1) 0) y2) 1000000000) 1000000000)))])),(.b y7),(.i y8),(.r y9)])) .fail) .fail))) .fail) .fail) (.br (ine y2 0) (.br (inb (qh .i64 y3 y1) 232) (.br (inb (qh .i64 y3 y1) 232) (.br (ilt y3 y8) (.br (inb y3 232) (.br (inb y3 232) (.br (ilt (qz .i64 (qh .i64 (qh .i64 (cI y6 (qh .i64 y3 y1) 0) y2) (kK .i64 y0 (cI y9 y3 0))) (kK .i64 (jP .i64 (qh .i64 (qh .i64 (cI y6 (qh .i64 y3 y1) 0) y2) (kK .i64 y0 (cI y9 y3 0))) 1000000000) 1000000000)) 0) (.br (inb (qh .i64 y3 y1) 232) (.br (inb (qh .i64 y3 y1) 232) (.leaf (0,[(.i y0),(.i y1),(.i (qz .i64 (jP .i64 (qh .i64 (qh .i64 (cI y6 (qh .i64 y3 y1) 0) y2) (kK .i64 y0 (cI y9 y3 0))) 1000000000) 1)),(.i (qh .i64 y3 1)),(.b y4),(.i (qaM y5 (qh .i64 (qh .i64 y3 y1) 1))),(.r (q9X y6 (qh .i64 y3 y1) 0 [(.i (qh .i64 (qz .i64 (qh .i64 (qh .i64 (cI y6 (qh .i64 y3 y1) 0) y2) (kK .i64 y0 (cI y9 y3 0))) (kK .i64 (jP .i64 (qh .i64 (qh .i64 (cI y6 (qh .i64 y3 y1) 0) y2) (kK .i64 y0 (cI y9 y3 0))) 1000000000) 1000000000)) 1000000000))])),(.b y7),(.i y8),(.r y9)])) .fail) .fail) (.br (inb (qh .i64 y3 y1) 232) (.br (inb (qh .i64 y3 y1) 232) (.leaf (0,[(.i y0),(.i y1),(.i (jP .i64 (qh .i64 (qh .i64 (cI y6 (qh .i64 y3 y1) 0) y2) (kK .i64 y0 (cI y9 y3 0))) 1000000000)),(.i (qh .i64 y3 1)),(.b y4),(.i (qaM y5 (qh .i64 (qh .i64 y3 y1) 1))),(.r (q9X y6 (qh .i64 y3 y1) 0 [(.i (qz .i64 (qh .i64 (qh .i64 (cI y6 (qh .i64 y3 y1) 0) y2) (kK .i64 y0 (cI y9 y3 0))) (kK .i64 (jP .i64 (qh .i64 (qh .i64 (cI y6 (qh .i64 y3 y1) 0) y2) (kK .i64 y0 (cI y9 y3 0))) 1000000000) 1000000000)))])),(.b y7),(.i y8),(.r y9)])) .fail) .fail)) .fail) .fail) (.br (ilt (qz .i64 (qh .i64 (cI y6 (qh .i64 y3 y1) 0) y2) (kK .i64 (jP .i64 (qh .i64 (cI y6 (qh .i64 y3 y1) 0) y2) 1000000000) 1000000000)) 0) (.br (inb (qh .i64 y3 y1) 232) (.br (inb (qh .i64 y3 y1) 232) (.leaf (0,[(.i y0),(.i y1),(.i (qz .i64 (jP .i64 (qh .i64 (cI y6 (qh .i64 y3 y1) 0) y2) 1000000000) 1)),(.i (qh .i64 y3 1)),(.b y4),(.i (qaM y5 (qh .i64 (qh .i64 y3 y1) 1))),(.r (q9X y6 (qh .i64 y3 y1) 0 [(.i (qh .i64 (qz .i64 (qh .i64 (cI y6 (qh .i64 y3 y1) 0) y2) (kK .i64 (jP .i64 (qh .i64 (cI y6 (qh .i64 y3 y1) 0) y2) 1000000000) 1000000000)) 1000000000))])),(.b y7),(.i y8),(.r y9)])) .fail) .fail) (.br (inb (qh .i64 y3 y1) 232) (.br (inb (qh .i64 y3 y1) 232) (.leaf (0,[(.i y0),(.i y1),(.i (jP .i64 (qh .i64 (cI y6 (qh .i64 y3 y1) 0) y2) 1000000000)),(.i (qh .i64 y3 1)),(.b y4),(.i (qaM y5 (qh .i64 (qh .i64 y3 y1) 1))),(.r (q9X y6 (qh .i64 y3 y1) 0 [(.i (qz .i64 (qh .i64 (cI y6 (qh .i64 y3 y1) 0) y2) (kK .i64 (jP .i64 (qh .i64 (cI y6 (qh .i64 y3 y1) 0) y2) 1000000000) 1000000000)))])),(.b y7),(.i y8),(.r y9)])) .fail) .fail))) .fail) .fail) (.leaf (1,[(.b y4),(.i y5),(.r y6),(.b y7),(.i y8),(.r y9)])))):=by kernel_rfl
theorem qe3(x0:Int)(x1:Int)(x2:Bool)(x3:Int)(x4:R)(x5:Bool)(x6:Int)(x7:R):qF [.i x0,.i x1,.b x2,.i x3,.r x4,.b x5,.i x6,.r x7]=(let r0:TR:=(qj vw [(.i x0),(.i x1),(.i 0),(.i 0),(.b x2),(.i x3),(.r x4),(.b x5),(.i x6),(.r x7)])
 .br (okR r0) (let r1:TR:=(qv [(.b (gB r0 0)),(.i (gI r0 1)),(.r (gR r0 2))])
 .br (okR r1) (.leaf (0,[(.b (gB r1 0)),(.i (gI r1 1)),(.r (gR r1 2)),(.b (gB r0 3)),(.i (gI r0 4)),(.r (gR r0 5))])) .fail) .fail):=by kernel_rfl
theorem qe7(y0:Int)(y1:Int)(y2:Bool)(y3:Int)(y4:R)(y5:Bool)(y6:Int)(y7:R)(y8:Bool)(y9:Int)(y10:R)(y11:Bool)(y12:Int)(y13:R):jf [.i y0,.i y1,.b y2,.i y3,.r y4,.b y5,.i y6,.r y7,.b y8,.i y9,.r y10,.b y11,.i y12,.r y13]=(let r0:TR:=(zu [(.b y11),(.i y12),(.r y13),(.b y5),(.i y6),(.r y7)])
 .br (okR r0) (.br (ile 0 (gI r0 0)) (let r1:TR:=(js [(.b (gB r0 1)),(.i (gI r0 2)),(.r (gR r0 3)),(.b (gB r0 4)),(.i (gI r0 5)),(.r (gR r0 6))])
 .br (okR r1) (let r2:TR:=(qF [(.i (qz .i64 0 (gI r1 0))),(.i 0),(.b (gB r1 1)),(.i (gI r1 2)),(.r (gR r1 3)),(.b (gB r1 4)),(.i (gI r1 5)),(.r (gR r1 6))])
 .br (okR r2) (.leaf (0,[(.i y0),(.i (qh .i64 y1 (gI r1 0))),(.b y2),(.i y3),(.r y4),(.b (gB r2 3)),(.i (gI r2 4)),(.r (gR r2 5)),(.b y8),(.i y9),(.r y10),(.b (gB r2 0)),(.i (gI r2 1)),(.r (gR r2 2))])) .fail) .fail) (.leaf (1,[(.i y0),(.i y1),(.b y2),(.i y3),(.r y4),(.b (gB r0 4)),(.i (gI r0 5)),(.r (gR r0 6)),(.b y8),(.i y9),(.r y10),(.b (gB r0 1)),(.i (gI r0 2)),(.r (gR r0 3))]))) .fail):=by kernel_rfl
theorem qg9(y0:Int)(y1:Bool)(y2:Int)(y3:R)(y4:Bool)(y5:Int)(y6:R)(y7:Bool)(y8:Int)(y9:R)(y10:Bool)(y11:Int)(y12:R):kJ [.i y0,.b y1,.i y2,.r y3,.b y4,.i y5,.r y6,.b y7,.i y8,.r y9,.b y10,.i y11,.r y12]=(.br (ile 0 y0) (.br (q4Y 232 232) (.br (q4Y 1 232) (.br (q4Y y11 232) (.br (q4Y 0 y11) (.br (inb y0 232) (.br (inb y0 232) (let r0:TR:=(qv [(.b y10),(.i (qh .i64 y11 1)),(.r (q9X (qfy y12 1 y12 0 (q61 (qpY y11 0) (qpY 232 1))) 0 0 [(.i (cI y3 y0 0))]))])
 .br (okR r0) (let r1:TR:=(qj jf [(.i y0),(.i 0),(.b y1),(.i y2),(.r y3),(.b y4),(.i y5),(.r y6),(.b y7),(.i y8),(.r y9),(.b (gB r0 0)),(.i (gI r0 1)),(.r (gR r0 2))])
 .br (okR r1) (.br (inb (gI r1 0) 232) (.br (inb (gI r1 0) 232) (.leaf (0,[(.i (qz .i64 (gI r1 0) 1)),(.b (gB r1 2)),(.i (gI r1 3)),(.r (gR r1 4)),(.b (gB r1 5)),(.i (gI r1 6)),(.r (gR r1 7)),(.b (gB r1 8)),(.i (qaM (gI r1 9) (qh .i64 (gI r1 0) 1))),(.r (q9X (gR r1 10) (gI r1 0) 0 [(.i (gI r1 1))])),(.b (gB r1 11)),(.i (gI r1 12)),(.r (gR r1 13))])) .fail) .fail) .fail) .fail) .fail) .fail) .fail) .fail) .fail) .fail) (.leaf (1,[(.b y1),(.i y2),(.r y3),(.b y4),(.i y5),(.r y6),(.b y7),(.i y8),(.r y9),(.b y10),(.i y11),(.r y12)]))):=by kernel_rfl
theorem qi5(x0:Bool)(x1:Int)(x2:R)(x3:Bool)(x4:Int)(x5:R):wA [.b x0,.i x1,.r x2,.b x3,.i x4,.r x5]=(let r0:TR:=(qj kJ [(.i (qz .i64 x1 1)),(.b x0),(.i x1),(.r x2),(.b x3),(.i x4),(.r x5),(.b false),(.i 0),(.r (q21 232 [(.i 0)])),(.b false),(.i 0),(.r (q21 232 [(.i 0)]))])
 .br (okR r0) (let r1:TR:=(qv [(.b (gB r0 6)),(.i (gI r0 7)),(.r (gR r0 8))])
 .br (okR r1) (.leaf (0,[(.b (gB r0 0)),(.i (gI r0 1)),(.r (gR r0 2)),(.b (gB r0 3)),(.i (gI r0 4)),(.r (gR r0 5)),(.b (gB r1 0)),(.i (gI r1 1)),(.r (gR r1 2)),(.b (gB r0 9)),(.i (gI r0 10)),(.r (gR r0 11))])) .fail) .fail):=by kernel_rfl
theorem qjm(y0:Int)(y1:Int):q0q [.i y0,.i y1]=(.br (ine y1 0) (.br (ine y1 0) (.leaf (0,[(.i y1),(.i (q4g y0 y1))])) .fail) (.leaf (1,[(.i y0)]))):=by kernel_rfl
theorem qkQ(y0:Bool)(y1:Int)(y2:R)(y3:Bool)(y4:Int)(y5:R):q3X [.b y0,.i y1,.r y2,.b y3,.i y4,.r y5]=(.br (ilt 0 y4) (.br (ile y1 1) (.br (ile y4 1) (let r0:TR:=(qj q0q [(.i (cI y2 0 0)),(.i (cI y5 0 0))])
 .br (okR r0) (let r1:TR:=(wU [(.i (gI r0 0))])
 .br (okR r1) (.leaf (2,[(.s (gS r1 0)),(.i 0)])) .fail) .fail) (let r0:TR:=(wA [(.b y0),(.i y1),(.r y2),(.b y3),(.i y4),(.r y5)])
 .br (okR r0) (.leaf (0,[(.b (gB r0 3)),(.i (gI r0 4)),(.r (gR r0 5)),(.b (gB r0 9)),(.i (gI r0 10)),(.r (gR r0 11))])) .fail)) (let r0:TR:=(wA [(.b y0),(.i y1),(.r y2),(.b y3),(.i y4),(.r y5)])
 .br (okR r0) (.leaf (0,[(.b (gB r0 3)),(.i (gI r0 4)),(.r (gR r0 5)),(.b (gB r0 9)),(.i (gI r0 10)),(.r (gR r0 11))])) .fail)) (.leaf (1,[(.b y0),(.i y1),(.r y2)]))):=by kernel_rfl
theorem qoG(x0:List UInt8)(x1:List UInt8):q1g [.s x0,.s x1]=(let r0:TR:=(zE [(.r [[(.s x0)],[(.s x1)]])])
 .br (okR r0) (.br (ine (gI r0 0) 0) (.leaf (0,[(.s []),(.i (gI r0 0))])) (let r1:TR:=(zr [(.s x0)])
 .br (okR r1) (let r2:TR:=(zr [(.s x1)])
 .br (okR r2) (let r3:TR:=(qj q3X [(.b (gB r1 0)),(.i (gI r1 1)),(.r (gR r1 2)),(.b (gB r2 0)),(.i (gI r2 1)),(.r (gR r2 2))])
 .br (okR r3) (.br (jIs r3 0) (let r4:TR:=(qG [(.b false),(.i (gI r3 1)),(.r (gR r3 2))])
 .br (okR r4) (.leaf (0,[(.s (gS r4 0)),(.i 0)])) .fail) (.leaf (0,[(.s (gS r3 0)),(.i (gI r3 1))]))) .fail) .fail) .fail)) .fail):=by kernel_rfl
theorem qkL(x0:List UInt8):vt [.s x0]=(let r0:TR:=(qK [(.s x0)])
 .br (okR r0) (let r1:TR:=(z6 [(.s (gS r0 0))])
 .br (okR r1) (let r2:TR:=(z6 [(.s (gS r0 1))])
 .br (okR r2) (.br (ieq (gI r1 0) 3) (.leaf (0,[(.i 3)])) (.br (ieq (gI r2 0) 3) (.leaf (0,[(.i 3)])) (.br (ine (gI r1 0) 0) (.leaf (0,[(.i (qaM (gI r1 0) (gI r2 0)))])) (.br (ine (gI r2 0) 0) (.leaf (0,[(.i (qaM (gI r1 0) (gI r2 0)))])) (.br (not (gB r0 2)) (.leaf (0,[(.i 0)])) (let r3:TR:=(q1n [(.s (gS r0 1)),(.s [49])])
 .br (okR r3) (let r4:TR:=(q1g [(.s (gS r0 0)),(.s (gS r0 1))])
 .br (okR r4) (.br (ine (gI r3 1) 0) (.leaf (0,[(.i 3)])) (.br (ine (gI r4 1) 0) (.leaf (0,[(.i 3)])) (.br (ile (gI r3 0) 0) (.leaf (0,[(.i 3)])) (.br (not (seq (gS r4 0) [49])) (.leaf (0,[(.i 3)])) (.leaf (0,[(.i 0)])))))) .fail) .fail)))))) .fail) .fail) .fail):=by kernel_rfl
theorem q2Q(y0:Int)(y1:Int)(y2:List UInt8)(y3:List UInt8)(y4:List UInt8)(y5:R):q11 [.i y0,.i y1,.s y2,.s y3,.s y4,.r y5]=(.br (ilt y1 y0) (.br (inb y1 (qt y5)) (let r0:TR:=(vt [(.s (cS y5 y1 0))])
 .br (okR r0) (.br (ine (gI r0 0) 0) (.leaf (2,[(.i (gI r0 0))])) (.leaf (0,[(.i y0),(.i (qh .i64 y1 1)),(.s y2),(.s y3),(.s y4),(.r y5)]))) .fail) .fail) (.leaf (1,[(.s y2),(.s y3),(.s y4)]))):=by kernel_rfl
theorem qky(x0:List UInt8)(x1:List UInt8)(x2:List UInt8):jI [.s x0,.s x1,.s x2]=(let r0:TR:=(qj q11 [(.i (qt [[(.s x0)],[(.s x1)],[(.s x2)]])),(.i 0),(.s x0),(.s x1),(.s x2),(.r [[(.s x0)],[(.s x1)],[(.s x2)]])])
 .br (okR r0) (.br (jIs r0 0) (.br (inb 0 (qm (gS r0 2))) (.br (ieq (sat (gS r0 2) 0) 45) (.leaf (0,[(.i 2)])) (.leaf (0,[(.i 0)]))) .fail) (.leaf (0,[(.i (gI r0 0))]))) .fail):=by kernel_rfl
theorem qc5(y0:R)(y1:R)(y2:Int)(y3:Int):q2E [.r y0,.r y1,.i y2,.i y3]=(.br (ilt y3 y2) (.br (inb y3 (qt y1)) (let r0:TR:=(jI [(.s (cS y1 y3 0)),(.s (cS y1 y3 1)),(.s (cS y1 y3 2))])
 .br (okR r0) (.br (ine (gI r0 0) 0) (.leaf (2,[(.i (gI r0 0))])) (.leaf (0,[(.r y0),(.r y1),(.i y2),(.i (qh .i64 y3 1))]))) .fail) .fail) (.leaf (1,[(.r y0)]))):=by kernel_rfl
theorem qnd(x0:R):zq [.r x0]=(.br (ilt 64 (qt x0)) (.leaf (0,[(.i 5)])) (let r0:TR:=(qj q2E [(.r x0),(.r x0),(.i (qt x0)),(.i 0)])
 .br (okR r0) (.br (jIs r0 0) (.br (ieq (qt (gR r0 0)) 0) (.leaf (0,[(.i 13)])) (.leaf (0,[(.i 0)]))) (.leaf (0,[(.i (gI r0 0))]))) .fail)):=by kernel_rfl
theorem qkN(x0:List UInt8)(x1:List UInt8):jJ [.s x0,.s x1]=(.br (ilt 9 (qm x0)) (.leaf (0,[(.i 0),(.i 0),(.b false)])) (.br (ilt 9 (qm x1)) (.leaf (0,[(.i 0),(.i 0),(.b false)])) (.br (okR (vg [(.s x0)])) (.br (okR (vg [(.s x1)])) (.leaf (0,[(.i (gI (vg [(.s x0)]) 0)),(.i (gI (vg [(.s x1)]) 0)),(.b true)])) .fail) .fail))):=by kernel_rfl
theorem qk3(x0:Int):uu [.i x0]=(.br (okR (wU [(.i x0)])) (.leaf (0,[(.s (gS (wU [(.i x0)]) 0)),(.i 0)])) .fail):=by kernel_rfl
theorem qbV(y0:Int)(y1:Int)(y2:Bool)(y3:Int)(y4:R)(y5:Bool)(y6:Int)(y7:R)(y8:Bool)(y9:Int)(y10:R):jz [.i y0,.i y1,.b y2,.i y3,.r y4,.b y5,.i y6,.r y7,.b y8,.i y9,.r y10]=(.br (ilt y1 y0) (.br (inb y1 232) (.br (inb y1 232) (let r0:TR:=(qF [(.i (cI y7 y1 0)),(.i y1),(.b y8),(.i y9),(.r y10),(.b y2),(.i y3),(.r y4)])
 .br (okR r0) (.leaf (0,[(.i y0),(.i (qh .i64 y1 1)),(.b (gB r0 3)),(.i (gI r0 4)),(.r (gR r0 5)),(.b y5),(.i y6),(.r y7),(.b (gB r0 0)),(.i (gI r0 1)),(.r (gR r0 2))])) .fail) .fail) .fail) (.leaf (1,[(.b y2),(.i y3),(.r y4),(.b y5),(.i y6),(.r y7),(.b y8),(.i y9),(.r y10)]))):=by kernel_rfl
theorem qeI(x0:Bool)(x1:Int)(x2:R)(x3:Bool)(x4:Int)(x5:R):yT [.b x0,.i x1,.r x2,.b x3,.i x4,.r x5]=(let r0:TR:=(qj jz [(.i x4),(.i 0),(.b x0),(.i x1),(.r x2),(.b x3),(.i x4),(.r x5),(.b (not (beq x0 x3))),(.i 0),(.r (q21 232 [(.i 0)]))])
 .br (okR r0) (.leaf (0,[(.b (gB r0 0)),(.i (gI r0 1)),(.r (gR r0 2)),(.b (gB r0 3)),(.i (gI r0 4)),(.r (gR r0 5)),(.b (gB r0 6)),(.i (gI r0 7)),(.r (gR r0 8))])) .fail):=by kernel_rfl
theorem qcA(x0:Bool)(x1:Int)(x2:R):zC [.b x0,.i x1,.r x2]=(let r0:TR:=(qG [(.b x0),(.i x1),(.r x2)])
 .br (okR r0) (let r1:TR:=(z6 [(.s (gS r0 0))])
 .br (okR r1) (.br (ine (gI r1 0) 0) (.leaf (0,[(.s []),(.i (gI r1 0)),(.b (gB r0 1)),(.i (gI r0 2)),(.r (gR r0 3))])) (.leaf (0,[(.s (gS r0 0)),(.i 0),(.b (gB r0 1)),(.i (gI r0 2)),(.r (gR r0 3))]))) .fail) .fail):=by kernel_rfl
theorem qo1(x0:List UInt8)(x1:List UInt8):q2Z [.s x0,.s x1]=(let r0:TR:=(zE [(.r [[(.s x0)],[(.s x1)]])])
 .br (okR r0) (.br (ine (gI r0 0) 0) (.leaf (0,[(.s []),(.i (gI r0 0))])) (let r1:TR:=(jJ [(.s x0),(.s x1)])
 .br (okR r1) (.br (gB r1 2) (let r2:TR:=(uu [(.i (kK .i64 (gI r1 0) (gI r1 1)))])
 .br (okR r2) (.leaf (0,[(.s (gS r2 0)),(.i (gI r2 1))])) .fail) (let r2:TR:=(zr [(.s x0)])
 .br (okR r2) (let r3:TR:=(zr [(.s x1)])
 .br (okR r3) (let r4:TR:=(yT [(.b (gB r2 0)),(.i (gI r2 1)),(.r (gR r2 2)),(.b (gB r3 0)),(.i (gI r3 1)),(.r (gR r3 2))])
 .br (okR r4) (let r5:TR:=(zC [(.b (gB r4 6)),(.i (gI r4 7)),(.r (gR r4 8))])
 .br (okR r5) (.leaf (0,[(.s (gS r5 0)),(.i (gI r5 1))])) .fail) .fail) .fail) .fail)) .fail)) .fail):=by kernel_rfl
theorem q85(x0:List UInt8)(x1:List UInt8)(x2:Int):zy [.s x0,.s x1,.i x2]=(.br (ine x2 0) (.leaf (0,[(.s [48]),(.i x2)])) (let r0:TR:=(q2Z [(.s x0),(.s x1)])
 .br (okR r0) (.br (ine (gI r0 1) 0) (.leaf (0,[(.s [48]),(.i (gI r0 1))])) (.leaf (0,[(.s (gS r0 0)),(.i (gI r0 1))]))) .fail)):=by kernel_rfl
theorem q7b(y0:List UInt8)(y1:R)(y2:Int)(y3:Int)(y4:Int):jc [.s y0,.r y1,.i y2,.i y3,.i y4]=(.br (ilt y3 y2) (.br (inb y3 (qt y1)) (let r0:TR:=(zy [(.s y0),(.s (cS y1 y3 0)),(.i y4)])
 .br (okR r0) (.leaf (0,[(.s (gS r0 0)),(.r y1),(.i y2),(.i (qh .i64 y3 1)),(.i (gI r0 1))])) .fail) .fail) (.leaf (1,[(.s y0),(.i y4)]))):=by kernel_rfl
theorem qgM(x0:R)(x1:Int):qg [.r x0,.i x1]=(let r0:TR:=(qj jc [(.s [49]),(.r x0),(.i (qt x0)),(.i 0),(.i x1)])
 .br (okR r0) (.leaf (0,[(.s (gS r0 0)),(.i (gI r0 1))])) .fail):=by kernel_rfl
theorem qf0(x0:Bool)(x1:Int)(x2:R)(x3:Bool)(x4:Int)(x5:R):zN [.b x0,.i x1,.r x2,.b x3,.i x4,.r x5]=(.br (beq x0 x3) (let r0:TR:=(qF [(.i 1),(.i 0),(.b x0),(.i x1),(.r x2),(.b x3),(.i x4),(.r x5)])
 .br (okR r0) (.leaf (0,[(.b (gB r0 0)),(.i (gI r0 1)),(.r (gR r0 2)),(.b (gB r0 3)),(.i (gI r0 4)),(.r (gR r0 5))])) .fail) (let r0:TR:=(zu [(.b x0),(.i x1),(.r x2),(.b x3),(.i x4),(.r x5)])
 .br (okR r0) (.br (ile 0 (gI r0 0)) (let r1:TR:=(qF [(.i (-1)),(.i 0),(.b (gB r0 1)),(.i (gI r0 2)),(.r (gR r0 3)),(.b (gB r0 4)),(.i (gI r0 5)),(.r (gR r0 6))])
 .br (okR r1) (.leaf (0,[(.b (gB r1 0)),(.i (gI r1 1)),(.r (gR r1 2)),(.b (gB r1 3)),(.i (gI r1 4)),(.r (gR r1 5))])) .fail) (let r1:TR:=(qF [(.i (-1)),(.i 0),(.b (gB r0 4)),(.i (gI r0 5)),(.r (gR r0 6)),(.b (gB r0 1)),(.i (gI r0 2)),(.r (gR r0 3))])
 .br (okR r1) (.leaf (0,[(.b (gB r1 0)),(.i (gI r1 1)),(.r (gR r1 2)),(.b (gB r0 4)),(.i (gI r0 5)),(.r (gR r0 6))])) .fail)) .fail)):=by kernel_rfl
theorem q8X(y0:R)(y1:Int)(y2:Int)(y3:Bool)(y4:Int)(y5:R):q3H [.r y0,.i y1,.i y2,.b y3,.i y4,.r y5]=(.br (ilt y2 y1) (.br (inb y2 (qt y0)) (let r0:TR:=(zr [(.s (cS y0 y2 0))])
 .br (okR r0) (let r1:TR:=(zN [(.b y3),(.i y4),(.r y5),(.b (gB r0 0)),(.i (gI r0 1)),(.r (gR r0 2))])
 .br (okR r1) (.leaf (0,[(.r y0),(.i y1),(.i (qh .i64 y2 1)),(.b (gB r1 0)),(.i (gI r1 1)),(.r (gR r1 2))])) .fail) .fail) .fail) (.leaf (1,[(.b y3),(.i y4),(.r y5)]))):=by kernel_rfl
theorem qoA(x0:R):q7p [.r x0]=(let r0:TR:=(qj q3H [(.r x0),(.i (qt x0)),(.i 0),(.b false),(.i 0),(.r (q21 232 [(.i 0)]))])
 .br (okR r0) (let r1:TR:=(zC [(.b (gB r0 0)),(.i (gI r0 1)),(.r (gR r0 2))])
 .br (okR r1) (.leaf (0,[(.s (gS r1 0)),(.i (gI r1 1))])) .fail) .fail):=by kernel_rfl
theorem qoP(x0:List UInt8)(x1:List UInt8):q1a [.s x0,.s x1]=(let r0:TR:=(zE [(.r [[(.s x0)],[(.s x1)]])])
 .br (okR r0) (.br (ine (gI r0 0) 0) (.leaf (0,[(.s []),(.i (gI r0 0))])) (let r1:TR:=(jJ [(.s x0),(.s x1)])
 .br (okR r1) (.br (gB r1 2) (let r2:TR:=(uu [(.i (qh .i64 (gI r1 0) (gI r1 1)))])
 .br (okR r2) (.leaf (0,[(.s (gS r2 0)),(.i (gI r2 1))])) .fail) (let r2:TR:=(q7p [(.r [[(.s x0)],[(.s x1)]])])
 .br (okR r2) (.leaf (0,[(.s (gS r2 0)),(.i (gI r2 1))])) .fail)) .fail)) .fail):=by kernel_rfl
theorem qgD(x0:List UInt8):q0k [.s x0]=(let r0:TR:=(jU [(.s x0)])
 .br (okR r0) (.br (ieq (gI r0 0) 0) (.leaf (0,[(.s x0)])) (.br (ieq (gI r0 0) 1) (.br (ile ((qm [45])+(qm x0)) 140737488355328) (.leaf (0,[(.s (qeL [45] x0))])) .fail) (.br (q4Y (qm x0) (qm x0)) (.br (q4Y 1 (qm x0)) (.leaf (0,[(.s (q8i x0 1 (qm x0)))])) .fail) .fail))) .fail):=by kernel_rfl
theorem qoI(x0:List UInt8)(x1:List UInt8):q4J [.s x0,.s x1]=(let r0:TR:=(zE [(.r [[(.s x0)],[(.s x1)]])])
 .br (okR r0) (.br (ine (gI r0 0) 0) (.leaf (0,[(.s []),(.i (gI r0 0))])) (let r1:TR:=(q0k [(.s x1)])
 .br (okR r1) (let r2:TR:=(q1a [(.s x0),(.s (gS r1 0))])
 .br (okR r2) (.leaf (0,[(.s (gS r2 0)),(.i (gI r2 1))])) .fail) .fail)) .fail):=by kernel_rfl
theorem q86(x0:List UInt8)(x1:List UInt8)(x2:Int):wy [.s x0,.s x1,.i x2]=(.br (ine x2 0) (.leaf (0,[(.s [48]),(.i x2)])) (let r0:TR:=(q4J [(.s x0),(.s x1)])
 .br (okR r0) (.br (ine (gI r0 1) 0) (.leaf (0,[(.s [48]),(.i (gI r0 1))])) (.leaf (0,[(.s (gS r0 0)),(.i (gI r0 1))]))) .fail)):=by kernel_rfl
theorem qgT(x0:List UInt8)(x1:List UInt8)(x2:Int):zk [.s x0,.s x1,.i x2]=(let r0:TR:=(wy [(.s x0),(.s x1),(.i x2)])
 .br (okR r0) (.leaf (0,[(.s (gS r0 0)),(.i (gI r0 1))])) .fail):=by kernel_rfl
theorem qkT(x0:List UInt8)(x1:List UInt8)(x2:List UInt8)(x3:List UInt8)(x4:Int):q1T [.s x0,.s x1,.s x2,.s x3,.i x4]=(let r0:TR:=(qg [(.r [[(.s x0)],[(.s x3)]]),(.i x4)])
 .br (okR r0) (let r1:TR:=(qg [(.r [[(.s x2)],[(.s x1)]]),(.i (gI r0 1))])
 .br (okR r1) (let r2:TR:=(zk [(.s (gS r0 0)),(.s (gS r1 0)),(.i (gI r1 1))])
 .br (okR r2) (let r3:TR:=(qg [(.r [[(.s x1)],[(.s x3)]]),(.i (gI r2 1))])
 .br (okR r3) (.leaf (0,[(.s (gS r2 0)),(.s (gS r3 0)),(.i (gI r3 1))])) .fail) .fail) .fail) .fail):=by kernel_rfl
theorem qd3(x0:List UInt8)(x1:List UInt8):yo [.s x0,.s x1]=(let r0:TR:=(qE [(.s x0),(.s x1)])
 .br (okR r0) (.leaf (0,[(.b (gB r0 0))])) .fail):=by kernel_rfl
theorem qjQ(x0:List UInt8)(x1:List UInt8):q0u [.s x0,.s x1]=(.br (seq x1 [49]) (.leaf (0,[(.s x0)])) (.br (ile ((qm x0)+(qm [47])) 140737488355328) (.br (ile ((qm (qeL x0 [47]))+(qm x1)) 140737488355328) (.leaf (0,[(.s (qeL (qeL x0 [47]) x1))])) .fail) .fail)):=by kernel_rfl
theorem qjN(x0:List UInt8)(x1:List UInt8):q2l [.s x0,.s x1]=(let r0:TR:=(zE [(.r [[(.s x0)],[(.s x1)]])])
 .br (okR r0) (.br (ine (gI r0 0) 0) (.leaf (0,[(.s []),(.s []),(.i (gI r0 0))])) (.br (seq x1 [48]) (.leaf (0,[(.s []),(.s []),(.i 10)])) (let r1:TR:=(jJ [(.s x0),(.s x1)])
 .br (okR r1) (.br (gB r1 2) (.br (ine (gI r1 1) 0) (.br (ine (gI r1 1) 0) (.br (ine (q4g (gI r1 0) (gI r1 1)) 0) (.br (not (beq (ilt (q4g (gI r1 0) (gI r1 1)) 0) (ilt (gI r1 1) 0))) (let r2:TR:=(wU [(.i (qz .i64 (jP .i64 (gI r1 0) (gI r1 1)) 1))])
 .br (okR r2) (let r3:TR:=(wU [(.i (qh .i64 (q4g (gI r1 0) (gI r1 1)) (gI r1 1)))])
 .br (okR r3) (.leaf (0,[(.s (gS r2 0)),(.s (gS r3 0)),(.i 0)])) .fail) .fail) (let r2:TR:=(wU [(.i (jP .i64 (gI r1 0) (gI r1 1)))])
 .br (okR r2) (let r3:TR:=(wU [(.i (q4g (gI r1 0) (gI r1 1)))])
 .br (okR r3) (.leaf (0,[(.s (gS r2 0)),(.s (gS r3 0)),(.i 0)])) .fail) .fail)) (let r2:TR:=(wU [(.i (jP .i64 (gI r1 0) (gI r1 1)))])
 .br (okR r2) (let r3:TR:=(wU [(.i (q4g (gI r1 0) (gI r1 1)))])
 .br (okR r3) (.leaf (0,[(.s (gS r2 0)),(.s (gS r3 0)),(.i 0)])) .fail) .fail)) .fail) .fail) (let r2:TR:=(zr [(.s x0)])
 .br (okR r2) (let r3:TR:=(zr [(.s x1)])
 .br (okR r3) (let r4:TR:=(wA [(.b (gB r2 0)),(.i (gI r2 1)),(.r (gR r2 2)),(.b (gB r3 0)),(.i (gI r3 1)),(.r (gR r3 2))])
 .br (okR r4) (.br (ilt 0 (gI r4 10)) (.br (not (beq (gB r4 0) (gB r4 3))) (let r5:TR:=(zN [(.b true),(.i (gI r4 7)),(.r (gR r4 8)),(.b true),(.i 1),(.r (q9X (q21 232 [(.i 0)]) 0 0 [(.i 1)]))])
 .br (okR r5) (let r6:TR:=(zN [(.b (gB r4 0)),(.i (gI r4 10)),(.r (gR r4 11)),(.b (gB r4 3)),(.i (gI r4 4)),(.r (gR r4 5))])
 .br (okR r6) (let r7:TR:=(qG [(.b (gB r5 0)),(.i (gI r5 1)),(.r (gR r5 2))])
 .br (okR r7) (let r8:TR:=(qG [(.b (gB r6 0)),(.i (gI r6 1)),(.r (gR r6 2))])
 .br (okR r8) (.leaf (0,[(.s (gS r7 0)),(.s (gS r8 0)),(.i 0)])) .fail) .fail) .fail) .fail) (let r5:TR:=(qG [(.b (not (beq (gB r4 0) (gB r4 3)))),(.i (gI r4 7)),(.r (gR r4 8))])
 .br (okR r5) (let r6:TR:=(qG [(.b (gB r4 0)),(.i (gI r4 10)),(.r (gR r4 11))])
 .br (okR r6) (.leaf (0,[(.s (gS r5 0)),(.s (gS r6 0)),(.i 0)])) .fail) .fail)) (let r5:TR:=(qG [(.b (not (beq (gB r4 0) (gB r4 3)))),(.i (gI r4 7)),(.r (gR r4 8))])
 .br (okR r5) (let r6:TR:=(qG [(.b (gB r4 0)),(.i (gI r4 10)),(.r (gR r4 11))])
 .br (okR r6) (.leaf (0,[(.s (gS r5 0)),(.s (gS r6 0)),(.i 0)])) .fail) .fail)) .fail) .fail) .fail)) .fail))) .fail):=by kernel_rfl
theorem qnS(x0:List UInt8)(x1:List UInt8):q4D [.s x0,.s x1]=(let r0:TR:=(q2l [(.s x0),(.s x1)])
 .br (okR r0) (.br (ine (gI r0 2) 0) (.leaf (0,[(.s []),(.i (gI r0 2))])) (let r1:TR:=(z6 [(.s (gS r0 0))])
 .br (okR r1) (.br (ine (gI r1 0) 0) (.leaf (0,[(.s []),(.i (gI r1 0))])) (.leaf (0,[(.s (gS r0 0)),(.i 0)]))) .fail)) .fail):=by kernel_rfl
theorem q7W(x0:List UInt8)(x1:List UInt8)(x2:Int):wk [.s x0,.s x1,.i x2]=(.br (ine x2 0) (.leaf (0,[(.s [48]),(.i x2)])) (let r0:TR:=(q1g [(.s x0),(.s x1)])
 .br (okR r0) (.br (ine (gI r0 1) 0) (.leaf (0,[(.s [48]),(.i (gI r0 1))])) (.leaf (0,[(.s (gS r0 0)),(.i (gI r0 1))]))) .fail)):=by kernel_rfl
theorem q84(x0:List UInt8)(x1:List UInt8)(x2:Int):qQ [.s x0,.s x1,.i x2]=(.br (ine x2 0) (.leaf (0,[(.s [48]),(.i x2)])) (let r0:TR:=(q4D [(.s x0),(.s x1)])
 .br (okR r0) (.br (ine (gI r0 1) 0) (.leaf (0,[(.s [48]),(.i (gI r0 1))])) (.leaf (0,[(.s (gS r0 0)),(.i (gI r0 1))]))) .fail)):=by kernel_rfl
theorem qd6(x0:List UInt8)(x1:List UInt8)(x2:Int):qU [.s x0,.s x1,.i x2]=(let r0:TR:=(wk [(.s x0),(.s x1),(.i x2)])
 .br (okR r0) (let r1:TR:=(yo [(.s x1),(.s [45])])
 .br (okR r1) (.br (gB r1 0) (let r2:TR:=(zk [(.s [48]),(.s (gS r0 0)),(.i (gI r0 1))])
 .br (okR r2) (.br (ine (gI r2 1) 0) (.leaf (0,[(.s []),(.i (gI r2 1))])) (let r3:TR:=(qQ [(.s x0),(.s (gS r2 0)),(.i (gI r2 1))])
 .br (okR r3) (let r4:TR:=(qQ [(.s x1),(.s (gS r2 0)),(.i (gI r3 1))])
 .br (okR r4) (let r5:TR:=(q0u [(.s (gS r3 0)),(.s (gS r4 0))])
 .br (okR r5) (.leaf (0,[(.s (gS r5 0)),(.i (gI r4 1))])) .fail) .fail) .fail)) .fail) (.br (ine (gI r0 1) 0) (.leaf (0,[(.s []),(.i (gI r0 1))])) (let r2:TR:=(qQ [(.s x0),(.s (gS r0 0)),(.i (gI r0 1))])
 .br (okR r2) (let r3:TR:=(qQ [(.s x1),(.s (gS r0 0)),(.i (gI r2 1))])
 .br (okR r3) (let r4:TR:=(q0u [(.s (gS r2 0)),(.s (gS r3 0))])
 .br (okR r4) (.leaf (0,[(.s (gS r4 0)),(.i (gI r3 1))])) .fail) .fail) .fail))) .fail) .fail):=by kernel_rfl
theorem q9O(y0:R)(y1:Int)(y2:Int):q0j [.r y0,.i y1,.i y2]=(.br (ilt y2 y1) (.br (inb y2 (qt y0)) (let r0:TR:=(vt [(.s (cS y0 y2 0))])
 .br (okR r0) (.br (ine (gI r0 0) 0) (.leaf (2,[(.i (gI r0 0))])) (.leaf (0,[(.r y0),(.i y1),(.i (qh .i64 y2 1))]))) .fail) .fail) (.leaf (1,[]))):=by kernel_rfl
theorem qir(x0:R):qR [.r x0]=(let r0:TR:=(qj q0j [(.r x0),(.i (qt x0)),(.i 0)])
 .br (okR r0) (.br (jIs r0 0) (.leaf (0,[(.i 0)])) (.leaf (0,[(.i (gI r0 0))]))) .fail):=by kernel_rfl
theorem q8D(x0:List UInt8)(x1:List UInt8):wO [.s x0,.s x1]=(let r0:TR:=(qR [(.r [[(.s x0)],[(.s x1)]])])
 .br (okR r0) (.br (ine (gI r0 0) 0) (.leaf (0,[(.s []),(.i (gI r0 0))])) (let r1:TR:=(qK [(.s x0)])
 .br (okR r1) (let r2:TR:=(qK [(.s x1)])
 .br (okR r2) (let r3:TR:=(q1T [(.s (gS r1 0)),(.s (gS r1 1)),(.s (gS r2 0)),(.s (gS r2 1)),(.i 0)])
 .br (okR r3) (.br (ine (gI r3 2) 0) (.leaf (0,[(.s []),(.i (gI r3 2))])) (.br (seq (gS r3 1) [48]) (.leaf (0,[(.s []),(.i 10)])) (let r4:TR:=(qU [(.s (gS r3 0)),(.s (gS r3 1)),(.i (gI r3 2))])
 .br (okR r4) (.leaf (0,[(.s (gS r4 0)),(.i (gI r4 1))])) .fail))) .fail) .fail) .fail)) .fail):=by kernel_rfl
theorem qob(x0:List UInt8)(x1:List UInt8):q4M [.s x0,.s x1]=(let r0:TR:=(wO [(.s x0),(.s x1)])
 .br (okR r0) (.leaf (0,[(.s (gS r0 0)),(.i (gI r0 1))])) .fail):=by kernel_rfl
theorem q7Z(x0:List UInt8)(x1:List UInt8)(x2:Int):wu [.s x0,.s x1,.i x2]=(.br (ine x2 0) (.leaf (0,[(.s [48]),(.i x2)])) (let r0:TR:=(q4M [(.s x0),(.s x1)])
 .br (okR r0) (.br (ine (gI r0 1) 0) (.leaf (0,[(.s [48]),(.i (gI r0 1))])) (.leaf (0,[(.s (gS r0 0)),(.i (gI r0 1))]))) .fail)):=by kernel_rfl
theorem qgJ(x0:List UInt8)(x1:List UInt8)(x2:Int):qB [.s x0,.s x1,.i x2]=(let r0:TR:=(wu [(.s x0),(.s x1),(.i x2)])
 .br (okR r0) (.leaf (0,[(.s (gS r0 0)),(.i (gI r0 1))])) .fail):=by kernel_rfl
theorem q80(x0:List UInt8)(x1:List UInt8)(x2:Int):wz [.s x0,.s x1,.i x2]=(.br (ine x2 0) (.leaf (0,[(.s [48]),(.i x2)])) (let r0:TR:=(q1a [(.s x0),(.s x1)])
 .br (okR r0) (.br (ine (gI r0 1) 0) (.leaf (0,[(.s [48]),(.i (gI r0 1))])) (.leaf (0,[(.s (gS r0 0)),(.i (gI r0 1))]))) .fail)):=by kernel_rfl
theorem qgt(x0:List UInt8)(x1:List UInt8)(x2:Int):jt [.s x0,.s x1,.i x2]=(let r0:TR:=(wz [(.s x0),(.s x1),(.i x2)])
 .br (okR r0) (.leaf (0,[(.s (gS r0 0)),(.i (gI r0 1))])) .fail):=by kernel_rfl
theorem qkU(x0:List UInt8)(x1:List UInt8)(x2:List UInt8)(x3:List UInt8)(x4:Int):q1O [.s x0,.s x1,.s x2,.s x3,.i x4]=(let r0:TR:=(qg [(.r [[(.s x0)],[(.s x3)]]),(.i x4)])
 .br (okR r0) (let r1:TR:=(qg [(.r [[(.s x2)],[(.s x1)]]),(.i (gI r0 1))])
 .br (okR r1) (let r2:TR:=(jt [(.s (gS r0 0)),(.s (gS r1 0)),(.i (gI r1 1))])
 .br (okR r2) (let r3:TR:=(qg [(.r [[(.s x1)],[(.s x3)]]),(.i (gI r2 1))])
 .br (okR r3) (.leaf (0,[(.s (gS r2 0)),(.s (gS r3 0)),(.i (gI r3 1))])) .fail) .fail) .fail) .fail):=by kernel_rfl
theorem q8C(x0:List UInt8)(x1:List UInt8):wS [.s x0,.s x1]=(let r0:TR:=(qR [(.r [[(.s x0)],[(.s x1)]])])
 .br (okR r0) (.br (ine (gI r0 0) 0) (.leaf (0,[(.s []),(.i (gI r0 0))])) (let r1:TR:=(qK [(.s x0)])
 .br (okR r1) (let r2:TR:=(qK [(.s x1)])
 .br (okR r2) (let r3:TR:=(q1O [(.s (gS r1 0)),(.s (gS r1 1)),(.s (gS r2 0)),(.s (gS r2 1)),(.i 0)])
 .br (okR r3) (.br (ine (gI r3 2) 0) (.leaf (0,[(.s []),(.i (gI r3 2))])) (.br (seq (gS r3 1) [48]) (.leaf (0,[(.s []),(.i 10)])) (let r4:TR:=(qU [(.s (gS r3 0)),(.s (gS r3 1)),(.i (gI r3 2))])
 .br (okR r4) (.leaf (0,[(.s (gS r4 0)),(.i (gI r4 1))])) .fail))) .fail) .fail) .fail)) .fail):=by kernel_rfl
theorem qoJ(x0:List UInt8)(x1:List UInt8):q4F [.s x0,.s x1]=(let r0:TR:=(wS [(.s x0),(.s x1)])
 .br (okR r0) (.leaf (0,[(.s (gS r0 0)),(.i (gI r0 1))])) .fail):=by kernel_rfl
theorem q81(x0:List UInt8)(x1:List UInt8)(x2:Int):ww [.s x0,.s x1,.i x2]=(.br (ine x2 0) (.leaf (0,[(.s [48]),(.i x2)])) (let r0:TR:=(q4F [(.s x0),(.s x1)])
 .br (okR r0) (.br (ine (gI r0 1) 0) (.leaf (0,[(.s [48]),(.i (gI r0 1))])) (.leaf (0,[(.s (gS r0 0)),(.i (gI r0 1))]))) .fail)):=by kernel_rfl
theorem qhh(x0:List UInt8)(x1:List UInt8)(x2:Int):qY [.s x0,.s x1,.i x2]=(let r0:TR:=(ww [(.s x0),(.s x1),(.i x2)])
 .br (okR r0) (.leaf (0,[(.s (gS r0 0)),(.i (gI r0 1))])) .fail):=by kernel_rfl
theorem qlb(x0:List UInt8)(x1:List UInt8)(x2:List UInt8)(x3:List UInt8)(x4:Int):q1y [.s x0,.s x1,.s x2,.s x3,.i x4]=(let r0:TR:=(qg [(.r [[(.s x0)],[(.s x2)]]),(.i x4)])
 .br (okR r0) (let r1:TR:=(qg [(.r [[(.s x1)],[(.s x3)]]),(.i (gI r0 1))])
 .br (okR r1) (.leaf (0,[(.s (gS r0 0)),(.s (gS r1 0)),(.i (gI r1 1))])) .fail) .fail):=by kernel_rfl
theorem q9b(x0:List UInt8)(x1:List UInt8):wZ [.s x0,.s x1]=(let r0:TR:=(qR [(.r [[(.s x0)],[(.s x1)]])])
 .br (okR r0) (.br (ine (gI r0 0) 0) (.leaf (0,[(.s []),(.i (gI r0 0))])) (let r1:TR:=(qK [(.s x0)])
 .br (okR r1) (let r2:TR:=(qK [(.s x1)])
 .br (okR r2) (let r3:TR:=(q1y [(.s (gS r1 0)),(.s (gS r1 1)),(.s (gS r2 0)),(.s (gS r2 1)),(.i 0)])
 .br (okR r3) (.br (ine (gI r3 2) 0) (.leaf (0,[(.s []),(.i (gI r3 2))])) (.br (seq (gS r3 1) [48]) (.leaf (0,[(.s []),(.i 10)])) (let r4:TR:=(qU [(.s (gS r3 0)),(.s (gS r3 1)),(.i (gI r3 2))])
 .br (okR r4) (.leaf (0,[(.s (gS r4 0)),(.i (gI r4 1))])) .fail))) .fail) .fail) .fail)) .fail):=by kernel_rfl
theorem qog(x0:List UInt8)(x1:List UInt8):q4Q [.s x0,.s x1]=(let r0:TR:=(wZ [(.s x0),(.s x1)])
 .br (okR r0) (.leaf (0,[(.s (gS r0 0)),(.i (gI r0 1))])) .fail):=by kernel_rfl
theorem q83(x0:List UInt8)(x1:List UInt8)(x2:Int):wD [.s x0,.s x1,.i x2]=(.br (ine x2 0) (.leaf (0,[(.s [48]),(.i x2)])) (let r0:TR:=(q4Q [(.s x0),(.s x1)])
 .br (okR r0) (.br (ine (gI r0 1) 0) (.leaf (0,[(.s [48]),(.i (gI r0 1))])) (.leaf (0,[(.s (gS r0 0)),(.i (gI r0 1))]))) .fail)):=by kernel_rfl
theorem qgH(x0:List UInt8)(x1:List UInt8)(x2:Int):qH [.s x0,.s x1,.i x2]=(let r0:TR:=(wD [(.s x0),(.s x1),(.i x2)])
 .br (okR r0) (.leaf (0,[(.s (gS r0 0)),(.i (gI r0 1))])) .fail):=by kernel_rfl
theorem qgh(x0:List UInt8)(x1:List UInt8)(x2:List UInt8)(x3:List UInt8)(x4:Int):zT [.s x0,.s x1,.s x2,.s x3,.i x4]=(let r0:TR:=(qB [(.s x0),(.s x2),(.i x4)])
 .br (okR r0) (let r1:TR:=(qB [(.s x1),(.s x3),(.i (gI r0 1))])
 .br (okR r1) (.leaf (0,[(.s (gS r0 0)),(.s (gS r1 0)),(.i (gI r1 1))])) .fail) .fail):=by kernel_rfl
theorem qhf(x0:List UInt8)(x1:List UInt8)(x2:List UInt8)(x3:List UInt8)(x4:Int):zv [.s x0,.s x1,.s x2,.s x3,.i x4]=(let r0:TR:=(qH [(.s x0),(.s x2),(.i x4)])
 .br (okR r0) (let r1:TR:=(qH [(.s x1),(.s x3),(.i (gI r0 1))])
 .br (okR r1) (let r2:TR:=(qY [(.s (gS r0 0)),(.s (gS r1 0)),(.i (gI r1 1))])
 .br (okR r2) (.leaf (0,[(.s (gS r2 0)),(.i (gI r2 1))])) .fail) .fail) .fail):=by kernel_rfl
theorem ql7(x0:List UInt8)(x1:List UInt8)(x2:List UInt8)(x3:List UInt8)(x4:Int):q1B [.s x0,.s x1,.s x2,.s x3,.i x4]=(let r0:TR:=(qg [(.r [[(.s x0)],[(.s x3)]]),(.i x4)])
 .br (okR r0) (let r1:TR:=(qg [(.r [[(.s x1)],[(.s x2)]]),(.i (gI r0 1))])
 .br (okR r1) (.leaf (0,[(.s (gS r0 0)),(.s (gS r1 0)),(.i (gI r1 1))])) .fail) .fail):=by kernel_rfl
theorem q8V(x0:List UInt8)(x1:List UInt8):wL [.s x0,.s x1]=(let r0:TR:=(qR [(.r [[(.s x0)],[(.s x1)]])])
 .br (okR r0) (.br (ine (gI r0 0) 0) (.leaf (0,[(.s []),(.i (gI r0 0))])) (let r1:TR:=(qK [(.s x0)])
 .br (okR r1) (let r2:TR:=(qK [(.s x1)])
 .br (okR r2) (let r3:TR:=(q1B [(.s (gS r1 0)),(.s (gS r1 1)),(.s (gS r2 0)),(.s (gS r2 1)),(.i 0)])
 .br (okR r3) (.br (ine (gI r3 2) 0) (.leaf (0,[(.s []),(.i (gI r3 2))])) (.br (seq (gS r3 1) [48]) (.leaf (0,[(.s []),(.i 10)])) (let r4:TR:=(qU [(.s (gS r3 0)),(.s (gS r3 1)),(.i (gI r3 2))])
 .br (okR r4) (.leaf (0,[(.s (gS r4 0)),(.i (gI r4 1))])) .fail))) .fail) .fail) .fail)) .fail):=by kernel_rfl
theorem qoK(x0:List UInt8)(x1:List UInt8):q4q [.s x0,.s x1]=(let r0:TR:=(qR [(.r [[(.s x0)],[(.s x1)]])])
 .br (okR r0) (.br (ine (gI r0 0) 0) (.leaf (0,[(.s []),(.i (gI r0 0))])) (.br (seq x1 [48]) (.leaf (0,[(.s []),(.i 10)])) (let r1:TR:=(wL [(.s x0),(.s x1)])
 .br (okR r1) (.leaf (0,[(.s (gS r1 0)),(.i (gI r1 1))])) .fail))) .fail):=by kernel_rfl
theorem q7X(x0:List UInt8)(x1:List UInt8)(x2:Int):zz [.s x0,.s x1,.i x2]=(.br (ine x2 0) (.leaf (0,[(.s [48]),(.i x2)])) (let r0:TR:=(q4q [(.s x0),(.s x1)])
 .br (okR r0) (.br (ine (gI r0 1) 0) (.leaf (0,[(.s [48]),(.i (gI r0 1))])) (.leaf (0,[(.s (gS r0 0)),(.i (gI r0 1))]))) .fail)):=by kernel_rfl
theorem qeG(x0:R)(x1:Int)(x2:Int)(x3:Int)(x4:Int):vo [.r x0,.i x1,.i x2,.i x3,.i x4]=(.br (inb x1 (qt x0)) (.br (inb x2 (qt x0)) (.br (ieq x1 x2) (.leaf (0,[(.s (cS x0 x1 0)),(.s (cS x0 x1 1)),(.s [48]),(.s [48]),(.s [48]),(.b (ieq x3 0)),(.i x4)])) (let r0:TR:=(zT [(.s (cS x0 x2 0)),(.s (cS x0 x2 1)),(.s (cS x0 x1 0)),(.s (cS x0 x1 1)),(.i x4)])
 .br (okR r0) (let r1:TR:=(zv [(.s (gS r0 0)),(.s (gS r0 1)),(.s (gS r0 0)),(.s (gS r0 1)),(.i (gI r0 2))])
 .br (okR r1) (.br (seq (gS r1 0) [48]) (.leaf (0,[(.s []),(.s []),(.s []),(.s []),(.s []),(.b false),(.i (gI r1 1))])) (let r2:TR:=(qY [(.s (gS r1 0)),(.s (cS x0 x1 2)),(.i (gI r1 1))])
 .br (okR r2) (let r3:TR:=(qB [(.s (gS r2 0)),(.s (cS x0 x2 2)),(.i (gI r2 1))])
 .br (okR r3) (let r4:TR:=(qH [(.s [50]),(.s (gS r1 0)),(.i (gI r3 1))])
 .br (okR r4) (let r5:TR:=(zz [(.s (gS r3 0)),(.s (gS r4 0)),(.i (gI r4 1))])
 .br (okR r5) (let r6:TR:=(qH [(.s (gS r5 0)),(.s (gS r0 0)),(.i (gI r5 1))])
 .br (okR r6) (let r7:TR:=(qY [(.s (cS x0 x1 0)),(.s (gS r6 0)),(.i (gI r6 1))])
 .br (okR r7) (let r8:TR:=(qH [(.s (gS r5 0)),(.s (gS r0 1)),(.i (gI r7 1))])
 .br (okR r8) (let r9:TR:=(qY [(.s (cS x0 x1 1)),(.s (gS r8 0)),(.i (gI r8 1))])
 .br (okR r9) (let r10:TR:=(qB [(.s [48]),(.s (gS r0 1)),(.i (gI r9 1))])
 .br (okR r10) (let r11:TR:=(zz [(.s (cS x0 x1 2)),(.s (gS r1 0)),(.i (gI r10 1))])
 .br (okR r11) (let r12:TR:=(qH [(.s (gS r5 0)),(.s (gS r5 0)),(.i (gI r11 1))])
 .br (okR r12) (let r13:TR:=(qB [(.s (gS r11 0)),(.s (gS r12 0)),(.i (gI r12 1))])
 .br (okR r13) (.br (ilt x3 0) (let r14:TR:=(qB [(.s [48]),(.s (gS r0 0)),(.i (gI r13 1))])
 .br (okR r14) (.br (ieq (gI r14 1) 0) (.br (inb 0 (qm (gS r13 0))) (.br (ine (sat (gS r13 0) 0) 45) (.leaf (0,[(.s (gS r7 0)),(.s (gS r9 0)),(.s (gS r0 1)),(.s (gS r14 0)),(.s (gS r13 0)),(.b (beq (seq (gS r13 0) [48]) (ieq x3 0))),(.i (gI r14 1))])) (.leaf (0,[(.s (gS r7 0)),(.s (gS r9 0)),(.s (gS r0 1)),(.s (gS r14 0)),(.s (gS r13 0)),(.b false),(.i (gI r14 1))]))) .fail) (.leaf (0,[(.s (gS r7 0)),(.s (gS r9 0)),(.s (gS r0 1)),(.s (gS r14 0)),(.s (gS r13 0)),(.b false),(.i (gI r14 1))]))) .fail) (.br (ieq (gI r13 1) 0) (.br (inb 0 (qm (gS r13 0))) (.br (ine (sat (gS r13 0) 0) 45) (.leaf (0,[(.s (gS r7 0)),(.s (gS r9 0)),(.s (gS r10 0)),(.s (gS r0 0)),(.s (gS r13 0)),(.b (beq (seq (gS r13 0) [48]) (ieq x3 0))),(.i (gI r13 1))])) (.leaf (0,[(.s (gS r7 0)),(.s (gS r9 0)),(.s (gS r10 0)),(.s (gS r0 0)),(.s (gS r13 0)),(.b false),(.i (gI r13 1))]))) .fail) (.leaf (0,[(.s (gS r7 0)),(.s (gS r9 0)),(.s (gS r10 0)),(.s (gS r0 0)),(.s (gS r13 0)),(.b false),(.i (gI r13 1))])))) .fail) .fail) .fail) .fail) .fail) .fail) .fail) .fail) .fail) .fail) .fail) .fail)) .fail) .fail)) .fail) .fail):=by kernel_rfl
theorem qm8(x0:List UInt8):q5c [.s x0]=(let r0:TR:=(z6 [(.s x0)])
 .br (okR r0) (.br (ine (gI r0 0) 0) (.leaf (0,[(.i 0),(.i (gI r0 0))])) (let r1:TR:=(jU [(.s x0)])
 .br (okR r1) (.leaf (0,[(.i (gI r1 0)),(.i 0)])) .fail)) .fail):=by kernel_rfl
theorem qg5(x0:List UInt8)(x1:Int):zm [.s x0,.i x1]=(.br (ine x1 0) (.leaf (0,[(.i 0),(.i x1)])) (let r0:TR:=(q5c [(.s x0)])
 .br (okR r0) (.leaf (0,[(.i (gI r0 0)),(.i (gI r0 1))])) .fail)):=by kernel_rfl
theorem qeR(x0:List UInt8)(x1:List UInt8)(x2:List UInt8)(x3:Int):yh [.s x0,.s x1,.s x2,.i x3]=(let r0:TR:=(zm [(.s x0),(.i x3)])
 .br (okR r0) (let r1:TR:=(zm [(.s x1),(.i (gI r0 1))])
 .br (okR r1) (let r2:TR:=(zm [(.s x2),(.i (gI r1 1))])
 .br (okR r2) (.br (ile 0 (kK .i64 (gI r0 0) (kK .i64 (gI r1 0) (gI r2 0)))) (.br (ine (gI r0 0) 0) (.leaf (0,[(.i (gI r0 0)),(.i (gI r2 1))])) (.leaf (0,[(.i (kK .i64 (gI r1 0) (gI r2 0))),(.i (gI r2 1))]))) (let r3:TR:=(qg [(.r [[(.s x0)],[(.s x0)]]),(.i (gI r2 1))])
 .br (okR r3) (let r4:TR:=(qg [(.r [[(.s x1)],[(.s x1)],[(.s x2)]]),(.i (gI r3 1))])
 .br (okR r4) (let r5:TR:=(zk [(.s (gS r3 0)),(.s (gS r4 0)),(.i (gI r4 1))])
 .br (okR r5) (let r6:TR:=(zm [(.s (gS r5 0)),(.i (gI r5 1))])
 .br (okR r6) (.leaf (0,[(.i (kK .i64 (gI r0 0) (gI r6 0))),(.i (gI r6 1))])) .fail) .fail) .fail) .fail)) .fail) .fail) .fail):=by kernel_rfl
theorem qfH(x0:List UInt8)(x1:List UInt8)(x2:List UInt8)(x3:List UInt8)(x4:List UInt8):km [.s x0,.s x1,.s x2,.s x3,.s x4]=(let r0:TR:=(qR [(.r [[(.s x0)],[(.s x1)],[(.s x2)],[(.s x3)],[(.s x4)]])])
 .br (okR r0) (.br (ine (gI r0 0) 0) (.leaf (0,[(.i 0),(.i (gI r0 0))])) (.br (inb 0 (qm x2)) (.br (ieq (sat x2 0) 45) (.leaf (0,[(.i 0),(.i 2)])) (.br (inb 0 (qm x4)) (.br (ieq (sat x4 0) 45) (.leaf (0,[(.i 0),(.i 2)])) (let r1:TR:=(qK [(.s x0)])
 .br (okR r1) (let r2:TR:=(qK [(.s x1)])
 .br (okR r2) (let r3:TR:=(qK [(.s x2)])
 .br (okR r3) (let r4:TR:=(qK [(.s x3)])
 .br (okR r4) (let r5:TR:=(qK [(.s x4)])
 .br (okR r5) (let r6:TR:=(qg [(.r [[(.s (gS r1 0))],[(.s (gS r2 1))],[(.s (gS r3 1))],[(.s (gS r4 1))],[(.s (gS r5 1))]]),(.i 0)])
 .br (okR r6) (let r7:TR:=(qg [(.r [[(.s (gS r2 0))],[(.s (gS r1 1))],[(.s (gS r4 1))],[(.s (gS r5 1))]]),(.i (gI r6 1))])
 .br (okR r7) (let r8:TR:=(qg [(.r [[(.s (gS r3 0))],[(.s (gS r3 1))]]),(.i (gI r7 1))])
 .br (okR r8) (let r9:TR:=(qg [(.r [[(.s (gS r4 0))],[(.s (gS r1 1))],[(.s (gS r2 1))],[(.s (gS r3 1))]]),(.i (gI r8 1))])
 .br (okR r9) (let r10:TR:=(qg [(.r [[(.s (gS r5 0))],[(.s (gS r5 1))]]),(.i (gI r9 1))])
 .br (okR r10) (let r11:TR:=(yh [(.s (gS r6 0)),(.s (gS r7 0)),(.s (gS r8 0)),(.i (gI r10 1))])
 .br (okR r11) (let r12:TR:=(zm [(.s (gS r9 0)),(.i (gI r11 1))])
 .br (okR r12) (let r13:TR:=(zm [(.s (gS r10 0)),(.i (gI r12 1))])
 .br (okR r13) (.br (ile 0 (kK .i64 (gI r11 0) (kK .i64 (gI r12 0) (gI r13 0)))) (.br (ieq (gI r11 0) 0) (.leaf (0,[(.i (kK .i64 (gI r12 0) (gI r13 0))),(.i (gI r13 1))])) (.leaf (0,[(.i (gI r11 0)),(.i (gI r13 1))]))) (let r14:TR:=(qg [(.r [[(.s (gS r6 0))],[(.s (gS r6 0))]]),(.i (gI r13 1))])
 .br (okR r14) (let r15:TR:=(qg [(.r [[(.s (gS r7 0))],[(.s (gS r7 0))],[(.s (gS r8 0))]]),(.i (gI r14 1))])
 .br (okR r15) (let r16:TR:=(jt [(.s (gS r14 0)),(.s (gS r15 0)),(.i (gI r15 1))])
 .br (okR r16) (let r17:TR:=(qg [(.r [[(.s (gS r9 0))],[(.s (gS r9 0))],[(.s (gS r10 0))]]),(.i (gI r16 1))])
 .br (okR r17) (let r18:TR:=(zk [(.s (gS r16 0)),(.s (gS r17 0)),(.i (gI r17 1))])
 .br (okR r18) (let r19:TR:=(qg [(.r [[(.s [50])],[(.s (gS r6 0))],[(.s (gS r7 0))]]),(.i (gI r18 1))])
 .br (okR r19) (let r20:TR:=(yh [(.s (gS r18 0)),(.s (gS r19 0)),(.s (gS r8 0)),(.i (gI r19 1))])
 .br (okR r20) (.br (ine (gI r20 1) 0) (.leaf (0,[(.i 0),(.i (gI r20 1))])) (.leaf (0,[(.i (kK .i64 (gI r11 0) (gI r20 0))),(.i 0)]))) .fail) .fail) .fail) .fail) .fail) .fail) .fail)) .fail) .fail) .fail) .fail) .fail) .fail) .fail) .fail) .fail) .fail) .fail) .fail) .fail)) .fail)) .fail)) .fail):=by kernel_rfl
theorem qgB(x0:List UInt8)(x1:List UInt8)(x2:List UInt8):q0o [.s x0,.s x1,.s x2]=(let r0:TR:=(km [(.s x0),(.s x1),(.s x2),(.s [48]),(.s [48])])
 .br (okR r0) (.leaf (0,[(.i (gI r0 0)),(.i (gI r0 1))])) .fail):=by kernel_rfl
theorem qfO(x0:List UInt8)(x1:List UInt8)(x2:List UInt8)(x3:Int):zR [.s x0,.s x1,.s x2,.i x3]=(.br (ine x3 0) (.leaf (0,[(.i 0),(.i x3)])) (let r0:TR:=(q0o [(.s x0),(.s x1),(.s x2)])
 .br (okR r0) (.leaf (0,[(.i (gI r0 0)),(.i (gI r0 1))])) .fail)):=by kernel_rfl
theorem qez(x0:List UInt8)(x1:List UInt8)(x2:List UInt8)(x3:List UInt8)(x4:List UInt8)(x5:List UInt8)(x6:List UInt8)(x7:List UInt8)(x8:Int):ji [.s x0,.s x1,.s x2,.s x3,.s x4,.s x5,.s x6,.s x7,.i x8]=(let r0:TR:=(zT [(.s x3),(.s x4),(.s x0),(.s x1),(.i x8)])
 .br (okR r0) (let r1:TR:=(zv [(.s (gS r0 0)),(.s (gS r0 1)),(.s (gS r0 0)),(.s (gS r0 1)),(.i (gI r0 2))])
 .br (okR r1) (let r2:TR:=(zv [(.s x5),(.s x6),(.s x5),(.s x6),(.i (gI r1 1))])
 .br (okR r2) (let r3:TR:=(qH [(.s x7),(.s (gS r2 0)),(.i (gI r2 1))])
 .br (okR r3) (let r4:TR:=(qY [(.s (gS r1 0)),(.s (gS r3 0)),(.i (gI r3 1))])
 .br (okR r4) (let r5:TR:=(qB [(.s (gS r4 0)),(.s x2),(.i (gI r4 1))])
 .br (okR r5) (let r6:TR:=(zv [(.s (gS r0 0)),(.s (gS r0 1)),(.s x5),(.s x6),(.i (gI r5 1))])
 .br (okR r6) (let r7:TR:=(qH [(.s [50]),(.s (gS r6 0)),(.i (gI r6 1))])
 .br (okR r7) (let r8:TR:=(zR [(.s (gS r5 0)),(.s (gS r7 0)),(.s x7),(.i (gI r7 1))])
 .br (okR r8) (.leaf (0,[(.b (ile (gI r8 0) 0)),(.i (gI r8 1))])) .fail) .fail) .fail) .fail) .fail) .fail) .fail) .fail) .fail):=by kernel_rfl
theorem yC(y0:R)(y1:Int)(y2:Int)(y3:R)(y4:R)(y5:R)(y6:Int)(y7:Int)(y8:Int)(y9:Bool)(y10:List UInt8)(y11:List UInt8)(y12:List UInt8)(y13:List UInt8)(y14:List UInt8)(y15:Bool)(y16:R)(y17:Int)(y18:Int)(y19:Int)(y20:List UInt8)(y21:List UInt8)(y22:List UInt8)(y23:List UInt8)(y24:List UInt8)(y25:Bool)(y26:List UInt8)(y27:List UInt8)(y28:List UInt8)(y29:List UInt8)(y30:List UInt8)(y31:Bool)(y32:Bool)(y33:R)(y34:Int)(y35:Int)(y36:Int)(y37:Int)(y38:List UInt8)(y39:List UInt8)(y40:List UInt8)(y41:List UInt8)(y42:List UInt8):wx [.r y0,.i y1,.i y2,.r y3,.r y4,.r y5,.i y6,.i y7,.i y8,.b y9,.s y10,.s y11,.s y12,.s y13,.s y14,.b y15,.r y16,.i y17,.i y18,.i y19,.s y20,.s y21,.s y22,.s y23,.s y24,.b y25,.s y26,.s y27,.s y28,.s y29,.s y30,.b y31,.b y32,.r y33,.i y34,.i y35,.i y36,.i y37,.s y38,.s y39,.s y40,.s y41,.s y42]=(.br (ilt y2 y1) (.br (inb y2 (qt y0)) (let r0:TR:=(ji [(.s (cS y0 y2 0)),(.s (cS y0 y2 1)),(.s (cS y0 y2 2)),(.s y38),(.s y39),(.s y40),(.s y41),(.s y42),(.i y34)])
 .br (okR r0) (.br (not (gB r0 0)) (.leaf (2,[(.i y2),(.r y3),(.r y4),(.r y5),(.i y6),(.i y7),(.i y8),(.b y9),(.s y10),(.s y11),(.s y12),(.s y13),(.s y14),(.b y15),(.r y16),(.i y17),(.i y18),(.i y19),(.s y20),(.s y21),(.s y22),(.s y23),(.s y24),(.b y25),(.s y26),(.s y27),(.s y28),(.s y29),(.s y30),(.b y31),(.b y32),(.r y33),(.i (gI r0 1)),(.i y35),(.i y36),(.i y37),(.s y38),(.s y39),(.s y40),(.s y41),(.s y42)])) (.leaf (0,[(.r y0),(.i y1),(.i (qh .i64 y2 1)),(.r y3),(.r y4),(.r y5),(.i y6),(.i y7),(.i y8),(.b y9),(.s y10),(.s y11),(.s y12),(.s y13),(.s y14),(.b y15),(.r y16),(.i y17),(.i y18),(.i y19),(.s y20),(.s y21),(.s y22),(.s y23),(.s y24),(.b y25),(.s y26),(.s y27),(.s y28),(.s y29),(.s y30),(.b y31),(.b y32),(.r y33),(.i (gI r0 1)),(.i y35),(.i y36),(.i y37),(.s y38),(.s y39),(.s y40),(.s y41),(.s y42)]))) .fail) .fail) (.leaf (1,[(.r y3),(.r y4),(.r y5),(.i y6),(.i y7),(.i y8),(.b y9),(.s y10),(.s y11),(.s y12),(.s y13),(.s y14),(.b y15),(.r y16),(.i y17),(.i y18),(.i y19),(.s y20),(.s y21),(.s y22),(.s y23),(.s y24),(.b y25),(.s y26),(.s y27),(.s y28),(.s y29),(.s y30),(.b y31),(.b y32),(.r y33),(.i y34),(.i y35),(.i y36),(.i y37),(.s y38),(.s y39),(.s y40),(.s y41),(.s y42)]))):=by kernel_rfl
theorem qd7(x0:R)(x1:Int)(x2:Int)(x3:Int)(x4:Int):qL [.r x0,.i x1,.i x2,.i x3,.i x4]=(let r0:TR:=(vo [(.r x0),(.i x1),(.i x2),(.i x3),(.i x4)])
 .br (okR r0) (.br (gB r0 5) (let r1:TR:=(qj wx [(.r x0),(.i (qt x0)),(.i 0),(.r x0),(.r x0),(.r x0),(.i x1),(.i x2),(.i x3),(.b (gB r0 5)),(.s (gS r0 0)),(.s (gS r0 1)),(.s (gS r0 2)),(.s (gS r0 3)),(.s (gS r0 4)),(.b (gB r0 5)),(.r x0),(.i x1),(.i x2),(.i x3),(.s (gS r0 0)),(.s (gS r0 1)),(.s (gS r0 2)),(.s (gS r0 3)),(.s (gS r0 4)),(.b (gB r0 5)),(.s (gS r0 0)),(.s (gS r0 1)),(.s (gS r0 2)),(.s (gS r0 3)),(.s (gS r0 4)),(.b (gB r0 5)),(.b (gB r0 5)),(.r x0),(.i (gI r0 6)),(.i x1),(.i x2),(.i x3),(.s (gS r0 0)),(.s (gS r0 1)),(.s (gS r0 2)),(.s (gS r0 3)),(.s (gS r0 4))])
 .br (okR r1) (.br (jIs r1 0) (.leaf (0,[(.b (ieq (gI r1 31) 0)),(.i (gI r1 31))])) (.br (not (ile 0 (gI r1 0))) (.leaf (0,[(.b (ieq (gI r1 32) 0)),(.i (gI r1 32))])) (.leaf (0,[(.b false),(.i (gI r1 32))])))) .fail) (.leaf (0,[(.b false),(.i (gI r0 6))]))) .fail):=by kernel_rfl
theorem q2v(y0:Int)(y1:Int)(y2:Int)(y3:R)(y4:Int)(y5:Int)(y6:Int)(y7:Bool)(y8:Int):wK [.i y0,.i y1,.i y2,.r y3,.i y4,.i y5,.i y6,.b y7,.i y8]=(.br (ilt y1 y0) (let r0:TR:=(qL [(.r y3),(.i y1),(.i y1),(.i 0),(.i y2)])
 .br (okR r0) (.br (gB r0 0) (.leaf (2,[(.i (gI r0 1)),(.r y3),(.i y1),(.i y1),(.i 0),(.b true),(.i y8)])) (.leaf (0,[(.i y0),(.i (qh .i64 y1 1)),(.i (gI r0 1)),(.r y3),(.i y4),(.i y5),(.i y6),(.b y7),(.i y8)]))) .fail) (.leaf (1,[(.i y2),(.r y3),(.i y4),(.i y5),(.i y6),(.b y7),(.i y8)]))):=by kernel_rfl
theorem q1Z(y0:Int)(y1:Int)(y2:Int)(y3:Int)(y4:Int)(y5:Int)(y6:Int)(y7:R)(y8:Int)(y9:Int)(y10:Int)(y11:Bool)(y12:Int)(y13:R):wl [.i y0,.i y1,.i y2,.i y3,.i y4,.i y5,.i y6,.r y7,.i y8,.i y9,.i y10,.b y11,.i y12,.r y13]=(.br (ilt y5 y4) (.br (inb y5 (qt y13)) (let r0:TR:=(qL [(.r y7),(.i y0),(.i y1),(.i (cI y13 y5 0)),(.i y6)])
 .br (okR r0) (.br (gB r0 0) (.leaf (2,[(.i (gI r0 1)),(.r y7),(.i y0),(.i y1),(.i (cI y13 y5 0)),(.b true),(.i y12)])) (.leaf (0,[(.i y0),(.i y1),(.i y2),(.i y3),(.i y4),(.i (qh .i64 y5 1)),(.i (gI r0 1)),(.r y7),(.i y8),(.i y9),(.i y10),(.b y11),(.i y12),(.r y13)]))) .fail) .fail) (.leaf (1,[(.i y0),(.i y1),(.i y2),(.i y3),(.i y6),(.r y7),(.i y8),(.i y9),(.i y10),(.b y11),(.i y12)]))):=by kernel_rfl
theorem q1V(y0:Int)(y1:Int)(y2:Int)(y3:Int)(y4:Int)(y5:R)(y6:Int)(y7:Int)(y8:Int)(y9:Bool)(y10:Int):wo [.i y0,.i y1,.i y2,.i y3,.i y4,.r y5,.i y6,.i y7,.i y8,.b y9,.i y10]=(.br (ilt y1 y10) (let r0:TR:=(qj wl [(.i y0),(.i y1),(.i y2),(.i y3),(.i (qt [[(.i 0)],[(.i 1)],[(.i (-1))]])),(.i 0),(.i y4),(.r y5),(.i y6),(.i y7),(.i y8),(.b y9),(.i y10),(.r [[(.i 0)],[(.i 1)],[(.i (-1))]])])
 .br (okR r0) (.br (jIs r0 0) (.leaf (0,[(.i (gI r0 0)),(.i (qh .i64 (gI r0 1) 1)),(.i (gI r0 2)),(.i (gI r0 3)),(.i (gI r0 4)),(.r (gR r0 5)),(.i (gI r0 6)),(.i (gI r0 7)),(.i (gI r0 8)),(.b (gB r0 9)),(.i (gI r0 10))])) (.leaf (2,[(.i (gI r0 0)),(.r (gR r0 1)),(.i (gI r0 2)),(.i (gI r0 3)),(.i (gI r0 4)),(.b (gB r0 5)),(.i (gI r0 6))]))) .fail) (.leaf (1,[(.i y2),(.i y3),(.i y4),(.r y5),(.i y6),(.i y7),(.i y8),(.b y9),(.i y10)]))):=by kernel_rfl
theorem q2G(y0:Int)(y1:Int)(y2:Int)(y3:R)(y4:Int)(y5:Int)(y6:Int)(y7:Bool)(y8:Int):wW [.i y0,.i y1,.i y2,.r y3,.i y4,.i y5,.i y6,.b y7,.i y8]=(.br (ilt y1 y0) (let r0:TR:=(qj wo [(.i y1),(.i (qh .i64 y1 1)),(.i y0),(.i y1),(.i y2),(.r y3),(.i y4),(.i y5),(.i y6),(.b y7),(.i y8)])
 .br (okR r0) (.br (jIs r0 0) (.leaf (0,[(.i (gI r0 0)),(.i (qh .i64 (gI r0 1) 1)),(.i (gI r0 2)),(.r (gR r0 3)),(.i (gI r0 4)),(.i (gI r0 5)),(.i (gI r0 6)),(.b (gB r0 7)),(.i (gI r0 8))])) (.leaf (2,[(.i (gI r0 0)),(.r (gR r0 1)),(.i (gI r0 2)),(.i (gI r0 3)),(.i (gI r0 4)),(.b (gB r0 5)),(.i (gI r0 6))]))) .fail) (.leaf (1,[(.i y2),(.r y3),(.i y4),(.i y5),(.i y6),(.b y7),(.i y8)]))):=by kernel_rfl
theorem qeJ(x0:R)(x1:Int):qA [.r x0,.i x1]=(let r0:TR:=(qj wK [(.i (qt x0)),(.i 0),(.i x1),(.r x0),(.i 0),(.i 0),(.i 0),(.b false),(.i (qt x0))])
 .br (okR r0) (.br (jIs r0 0) (let r1:TR:=(qj wW [(.i (gI r0 6)),(.i 0),(.i (gI r0 0)),(.r (gR r0 1)),(.i (gI r0 2)),(.i (gI r0 3)),(.i (gI r0 4)),(.b (gB r0 5)),(.i (gI r0 6))])
 .br (okR r1) (.br (jIs r1 0) (.leaf (0,[(.i 0),(.i 0),(.i 0),(.b false),(.i (gI r1 0))])) (.leaf (0,[(.i (gI r1 2)),(.i (gI r1 3)),(.i (gI r1 4)),(.b (gB r1 5)),(.i (gI r1 0))]))) .fail) (.leaf (0,[(.i (gI r0 2)),(.i (gI r0 3)),(.i (gI r0 4)),(.b (gB r0 5)),(.i (gI r0 0))]))) .fail):=by kernel_rfl
theorem qiD(x0:R):qV [.r x0]=(let r0:TR:=(zq [(.r x0)])
 .br (okR r0) (.br (ine (gI r0 0) 0) (.leaf (0,[(.b false),(.i 0),(.i 0),(.i 0),(.i (gI r0 0))])) (let r1:TR:=(qA [(.r x0),(.i 0)])
 .br (okR r1) (.br (ine (gI r1 4) 0) (.leaf (0,[(.b false),(.i 0),(.i 0),(.i 0),(.i (gI r1 4))])) (.leaf (0,[(.b (gB r1 3)),(.i (gI r1 0)),(.i (gI r1 1)),(.i (gI r1 2)),(.i 0)]))) .fail)) .fail):=by kernel_rfl
theorem qb4(y0:Int)(y1:Int)(y2:R):q1b [.i y0,.i y1,.r y2]=(.br (ilt y1 y0) (.br (inb y1 (qt y2)) (.br (ilt 12 (qm (cS y2 y1 0))) (.leaf (2,[(.b false)])) (.leaf (0,[(.i y0),(.i (qh .i64 y1 1)),(.r y2)]))) .fail) (.leaf (1,[]))):=by kernel_rfl
theorem ql5(x0:List UInt8)(x1:List UInt8)(x2:List UInt8):q1w [.s x0,.s x1,.s x2]=(let r0:TR:=(qj q1b [(.i (qt [[(.s x0)],[(.s x1)],[(.s x2)]])),(.i 0),(.r [[(.s x0)],[(.s x1)],[(.s x2)]])])
 .br (okR r0) (.br (jIs r0 0) (.leaf (0,[(.b true)])) (.leaf (0,[(.b (gB r0 0))]))) .fail):=by kernel_rfl
theorem qdo(y0:R)(y1:Int):q3M [.r y0,.i y1]=(.br (ilt y1 (qt y0)) (.br (ilt y1 6) (.br (inb y1 (qt y0)) (let r0:TR:=(q1w [(.s (cS y0 y1 0)),(.s (cS y0 y1 1)),(.s (cS y0 y1 2))])
 .br (okR r0) (.br (not (gB r0 0)) (.leaf (2,[(.b false)])) (.leaf (0,[(.r y0),(.i (qh .i64 y1 1))]))) .fail) .fail) (.leaf (1,[(.r y0)]))) (.leaf (1,[(.r y0)]))):=by kernel_rfl
theorem qnG(x0:R):q4A [.r x0]=(let r0:TR:=(qj q3M [(.r x0),(.i 0)])
 .br (okR r0) (.br (jIs r0 0) (.br (ile (qt (gR r0 0)) 5) (.leaf (0,[(.b true)])) (.br (ilt 64 (qt (gR r0 0))) (.leaf (0,[(.b (ilt (qt (gR r0 0)) 128))])) (.leaf (0,[(.b false)])))) (.leaf (0,[(.b (gB r0 0))]))) .fail):=by kernel_rfl
theorem qi9(y0:List UInt8)(y1:Int):q1m [.s y0,.i y1]=(.br (ilt y1 (qm y0)) (.br (inb y1 (qm y0)) (.br (ieq (sat y0 y1) 47) (.leaf (2,[(.i y1)])) (.leaf (0,[(.s y0),(.i (qh .i64 y1 1))]))) .fail) (.leaf (1,[]))):=by kernel_rfl
theorem qlc(x0:List UInt8):kV [.s x0]=(let r0:TR:=(qj q1m [(.s x0),(.i 0)])
 .br (okR r0) (.br (jIs r0 0) (.leaf (0,[(.i (-1))])) (.leaf (0,[(.i (gI r0 0))]))) .fail):=by kernel_rfl
theorem ql8(x0:List UInt8):yQ [.s x0]=(let r0:TR:=(kV [(.s x0)])
 .br (okR r0) (.br (ilt (gI r0 0) 0) (.leaf (0,[(.s x0),(.s [49])])) (.br (q4Y (gI r0 0) (qm x0)) (.br (q4Y 0 (gI r0 0)) (.br (q4Y (qm x0) (qm x0)) (.br (q4Y (qh .i64 (gI r0 0) 1) (qm x0)) (.leaf (0,[(.s (q8i x0 0 (gI r0 0))),(.s (q8i x0 (qh .i64 (gI r0 0) 1) (qm x0)))])) .fail) .fail) .fail) .fail)) .fail):=by kernel_rfl
theorem qfo(x0:List UInt8):qu [.s x0]=(.br (not (seq x0 [])) (.br (inb 0 (qm x0)) (.br (ieq (sat x0 0) 45) (.br (q4Y (qm x0) (qm x0)) (.br (q4Y 1 (qm x0)) (.leaf (0,[(.s (q8i x0 1 (qm x0)))])) .fail) .fail) (.leaf (0,[(.s x0)]))) .fail) (.leaf (0,[(.s x0)]))):=by kernel_rfl
theorem qia(y0:List UInt8)(y1:Int):kH [.s y0,.i y1]=(.br (ilt y1 (qm y0)) (.br (inb y1 (qm y0)) (.br (ilt (sat y0 y1) 48) (.leaf (2,[(.i 3)])) (.br (inb y1 (qm y0)) (.br (ilt 57 (sat y0 y1)) (.leaf (2,[(.i 3)])) (.leaf (0,[(.s y0),(.i (qh .i64 y1 1))]))) .fail)) .fail) (.leaf (1,[(.s y0)]))):=by kernel_rfl
theorem ql9(x0:List UInt8):q1U [.s x0]=(let r0:TR:=(qu [(.s x0)])
 .br (okR r0) (.br (seq (gS r0 0) []) (.leaf (0,[(.i 3)])) (.br (inb 0 (qm (gS r0 0))) (.br (ieq (sat (gS r0 0) 0) 48) (.br (ilt 1 (qm (gS r0 0))) (.leaf (0,[(.i 3)])) (.br (ilt 1 (qm x0)) (.leaf (0,[(.i 3)])) (let r1:TR:=(qj kH [(.s (gS r0 0)),(.i 0)])
 .br (okR r1) (.br (jIs r1 0) (.br (ilt 1024 (qm (gS r1 0))) (.leaf (0,[(.i 11)])) (.leaf (0,[(.i 0)]))) (.leaf (0,[(.i (gI r1 0))]))) .fail))) (let r1:TR:=(qj kH [(.s (gS r0 0)),(.i 0)])
 .br (okR r1) (.br (jIs r1 0) (.br (ilt 1024 (qm (gS r1 0))) (.leaf (0,[(.i 11)])) (.leaf (0,[(.i 0)]))) (.leaf (0,[(.i (gI r1 0))]))) .fail)) .fail)) .fail):=by kernel_rfl
theorem qkJ(x0:List UInt8):qI [.s x0]=(.br (inb 0 (qm x0)) (.leaf (0,[(.b (ieq (sat x0 0) 45))])) .fail):=by kernel_rfl
theorem qj5(x0:List UInt8)(x1:Bool):qJ [.s x0,.b x1]=(.br x1 (.br (not (seq x0 [48])) (.br (ile ((qm [45])+(qm x0)) 140737488355328) (.leaf (0,[(.s (qeL [45] x0))])) .fail) (.leaf (0,[(.s x0)]))) (.leaf (0,[(.s x0)]))):=by kernel_rfl
theorem q9l(y0:List UInt8)(y1:Int)(y2:List UInt8)(y3:Int):yE [.s y0,.i y1,.s y2,.i y3]=(.br (ilt y3 (qm y2)) (.br (inb y3 (qm y2)) (.leaf (0,[(.s y0),(.i (qh .i64 (kK .i64 10 y1) (vA .i64 (qz .u8 (sat y2 y3) 48)))),(.s y2),(.i (qh .i64 y3 1))])) .fail) (.leaf (1,[(.s y0),(.i y1)]))):=by kernel_rfl
theorem qjM(x0:List UInt8):jV [.s x0]=(let r0:TR:=(qu [(.s x0)])
 .br (okR r0) (let r1:TR:=(qj yE [(.s x0),(.i 0),(.s (gS r0 0)),(.i 0)])
 .br (okR r1) (let r2:TR:=(qI [(.s (gS r1 0))])
 .br (okR r2) (.br (gB r2 0) (.leaf (0,[(.i (qz .i64 0 (gI r1 1)))])) (.leaf (0,[(.i (gI r1 1))]))) .fail) .fail) .fail):=by kernel_rfl
theorem qkP(x0:List UInt8)(x1:List UInt8):zU [.s x0,.s x1]=(.br (okR (qu [(.s x0)])) (.br (ilt 18 (qm (gS (qu [(.s x0)]) 0))) (.leaf (0,[(.i 0),(.i 0),(.b false)])) (.br (okR (qu [(.s x1)])) (.br (ilt 18 (qm (gS (qu [(.s x1)]) 0))) (.leaf (0,[(.i 0),(.i 0),(.b false)])) (.br (okR (jV [(.s x0)])) (.br (okR (jV [(.s x1)])) (.leaf (0,[(.i (gI (jV [(.s x0)]) 0)),(.i (gI (jV [(.s x1)]) 0)),(.b true)])) .fail) .fail)) .fail)) .fail):=by kernel_rfl
theorem qiC(x0:List UInt8):wE [.s x0]=(let r0:TR:=(qu [(.s x0)])
 .br (okR r0) (let r1:TR:=(qI [(.s x0)])
 .br (okR r1) (let r2:TR:=(qJ [(.s (gS r0 0)),(.b (not (gB r1 0)))])
 .br (okR r2) (.leaf (0,[(.s (gS r2 0))])) .fail) .fail) .fail):=by kernel_rfl
theorem qkI(y0:Int)(y1:List UInt8):q3q [.i y0,.s y1]=(.br (ilt 9 y0) (.br (ile ((qm (qd4 [[(.i (vA .u8 (qh .i64 48 (q4g y0 10))))]]))+(qm y1)) 140737488355328) (.leaf (0,[(.i (jP .i64 y0 10)),(.s (qeL (qd4 [[(.i (vA .u8 (qh .i64 48 (q4g y0 10))))]]) y1))])) .fail) (.leaf (1,[(.i y0),(.s y1)]))):=by kernel_rfl
theorem qnB(x0:Int):q33 [.i x0]=(.br (ieq x0 (qz .i64 0 x0)) (.br (ine x0 0) (.leaf (0,[(.s [45,57,50,50,51,51,55,50,48,51,54,56,53,52,55,55,53,56,48,56])])) (.br (ilt x0 0) .fail (let r0:TR:=(qj q3q [(.i x0),(.s [])])
 .br (okR r0) (.br (ile ((qm (qd4 [[(.i (vA .u8 (qh .i64 48 (gI r0 0))))]]))+(qm (gS r0 1))) 140737488355328) (.leaf (0,[(.s (qeL (qd4 [[(.i (vA .u8 (qh .i64 48 (gI r0 0))))]]) (gS r0 1)))])) .fail) .fail))) (.br (ilt x0 0) .fail (let r0:TR:=(qj q3q [(.i x0),(.s [])])
 .br (okR r0) (.br (ile ((qm (qd4 [[(.i (vA .u8 (qh .i64 48 (gI r0 0))))]]))+(qm (gS r0 1))) 140737488355328) (.leaf (0,[(.s (qeL (qd4 [[(.i (vA .u8 (qh .i64 48 (gI r0 0))))]]) (gS r0 1)))])) .fail) .fail))):=by kernel_rfl
theorem qng(y0:Int)(y1:List UInt8):q5m [.i y0,.s y1]=(.br (ilt 9 y0) (.br (ile ((qm (qd4 [[(.i (vA .u8 (qh .i64 48 (q4g y0 10))))]]))+(qm y1)) 140737488355328) (.leaf (0,[(.i (jP .i64 y0 10)),(.s (qeL (qd4 [[(.i (vA .u8 (qh .i64 48 (q4g y0 10))))]]) y1))])) .fail) (.leaf (1,[(.i y0),(.s y1)]))):=by kernel_rfl
theorem qjf(x0:Int):zO [.i x0]=(.br (ieq x0 (qz .i64 0 x0)) (.br (ine x0 0) (.leaf (0,[(.s [45,57,50,50,51,51,55,50,48,51,54,56,53,52,55,55,53,56,48,56])])) (.br (ilt x0 0) (let r0:TR:=(q33 [(.i (qz .i64 0 x0))])
 .br (okR r0) (let r1:TR:=(wE [(.s (gS r0 0))])
 .br (okR r1) (.leaf (0,[(.s (gS r1 0))])) .fail) .fail) (let r0:TR:=(qj q5m [(.i x0),(.s [])])
 .br (okR r0) (.br (ile ((qm (qd4 [[(.i (vA .u8 (qh .i64 48 (gI r0 0))))]]))+(qm (gS r0 1))) 140737488355328) (.leaf (0,[(.s (qeL (qd4 [[(.i (vA .u8 (qh .i64 48 (gI r0 0))))]]) (gS r0 1)))])) .fail) .fail))) (.br (ilt x0 0) (let r0:TR:=(q33 [(.i (qz .i64 0 x0))])
 .br (okR r0) (let r1:TR:=(wE [(.s (gS r0 0))])
 .br (okR r1) (.leaf (0,[(.s (gS r1 0))])) .fail) .fail) (let r0:TR:=(qj q5m [(.i x0),(.s [])])
 .br (okR r0) (.br (ile ((qm (qd4 [[(.i (vA .u8 (qh .i64 48 (gI r0 0))))]]))+(qm (gS r0 1))) 140737488355328) (.leaf (0,[(.s (qeL (qd4 [[(.i (vA .u8 (qh .i64 48 (gI r0 0))))]]) (gS r0 1)))])) .fail) .fail))):=by kernel_rfl
theorem qk2(y0:List UInt8):q2A [.s y0]=(.br (ilt 1 (qm y0)) (.br (inb 0 (qm y0)) (.br (ieq (sat y0 0) 48) (.br (q4Y (qm y0) (qm y0)) (.br (q4Y 1 (qm y0)) (.leaf (0,[(.s (q8i y0 1 (qm y0)))])) .fail) .fail) (.leaf (1,[(.s y0)]))) .fail) (.leaf (1,[(.s y0)]))):=by kernel_rfl
theorem qmI(x0:List UInt8):zB [.s x0]=(let r0:TR:=(qj q2A [(.s x0)])
 .br (okR r0) (.leaf (0,[(.s (gS r0 0))])) .fail):=by kernel_rfl
theorem qbZ(y0:List UInt8)(y1:Int)(y2:Int)(y3:R):q0v [.s y0,.i y1,.i y2,.r y3]=(.br (ilt y2 y1) (.br (inb y2 (qt y3)) (.leaf (0,[(.s y0),(.i y1),(.i (qh .i64 y2 1)),(.r (q9X y3 y2 0 [(.i 48)]))])) .fail) (.leaf (1,[(.s y0),(.i y1),(.r y3)]))):=by kernel_rfl
theorem qnc(x0:List UInt8)(x1:Int):q13 [.s x0,.i x1]=(.br (ieq x1 x1) (.br (q4Y x1 140737488355328) (let r0:TR:=(qj q0v [(.s x0),(.i x1),(.i 0),(.r (q21 x1 [(.i 0)]))])
 .br (okR r0) (.br (ilt 0 (qt (gR r0 2))) (.br (q4Y (qz .i64 (gI r0 1) (qm (gS r0 0))) (qt (gR r0 2))) (.br (ile (qm (gS r0 0)) (qpY (qt (gR r0 2)) (qz .i64 (gI r0 1) (qm (gS r0 0))))) (.leaf (0,[(.s (qd4 (qp7 (gR r0 2) (qz .i64 (gI r0 1) (qm (gS r0 0))) (gS r0 0))))])) .fail) .fail) .fail) .fail) .fail) .fail):=by kernel_rfl
theorem qjT(x0:Int)(x1:Int)(x2:Int)(x3:Bool):q0y [.i x0,.i x1,.i x2,.b x3]=(.br x3 (.br (ilt 9 (qh .i64 (qh .i64 (vA .i64 (qz .u8 x0 48)) (vA .i64 (qz .u8 x1 48))) x2)) (.leaf (0,[(.i (vA .u8 (qz .i64 (qh .i64 48 (qh .i64 (qh .i64 (vA .i64 (qz .u8 x0 48)) (vA .i64 (qz .u8 x1 48))) x2)) 10))),(.i 1)])) (.br (ilt (qh .i64 (qh .i64 (vA .i64 (qz .u8 x0 48)) (vA .i64 (qz .u8 x1 48))) x2) 0) (.leaf (0,[(.i (vA .u8 (qh .i64 (qh .i64 48 (qh .i64 (qh .i64 (vA .i64 (qz .u8 x0 48)) (vA .i64 (qz .u8 x1 48))) x2)) 10))),(.i 1)])) (.leaf (0,[(.i (vA .u8 (qh .i64 48 (qh .i64 (qh .i64 (vA .i64 (qz .u8 x0 48)) (vA .i64 (qz .u8 x1 48))) x2)))),(.i 0)])))) (.br (ilt 9 (qz .i64 (qz .i64 (vA .i64 (qz .u8 x0 48)) (vA .i64 (qz .u8 x1 48))) x2)) (.leaf (0,[(.i (vA .u8 (qz .i64 (qh .i64 48 (qz .i64 (qz .i64 (vA .i64 (qz .u8 x0 48)) (vA .i64 (qz .u8 x1 48))) x2)) 10))),(.i 1)])) (.br (ilt (qz .i64 (qz .i64 (vA .i64 (qz .u8 x0 48)) (vA .i64 (qz .u8 x1 48))) x2) 0) (.leaf (0,[(.i (vA .u8 (qh .i64 (qh .i64 48 (qz .i64 (qz .i64 (vA .i64 (qz .u8 x0 48)) (vA .i64 (qz .u8 x1 48))) x2)) 10))),(.i 1)])) (.leaf (0,[(.i (vA .u8 (qh .i64 48 (qz .i64 (qz .i64 (vA .i64 (qz .u8 x0 48)) (vA .i64 (qz .u8 x1 48))) x2)))),(.i 0)]))))):=by kernel_rfl
theorem qi6(y0:List UInt8)(y1:List UInt8)(y2:Bool)(y3:Int)(y4:Int)(y5:R):kG [.s y0,.s y1,.b y2,.i y3,.i y4,.r y5]=(.br (ile 0 y4) (.br (inb y4 (qm y0)) (.br (inb y4 (qm y1)) (let r0:TR:=(q0y [(.i (sat y0 y4)),(.i (sat y1 y4)),(.i y3),(.b y2)])
 .br (okR r0) (.br (inb y4 (qt y5)) (.leaf (0,[(.s y0),(.s y1),(.b y2),(.i (gI r0 1)),(.i (qz .i64 y4 1)),(.r (q9X y5 y4 0 [(.i (gI r0 0))]))])) .fail) .fail) .fail) .fail) (.leaf (1,[(.r y5)]))):=by kernel_rfl
theorem qkE(x0:List UInt8)(x1:List UInt8)(x2:Bool):vq [.s x0,.s x1,.b x2]=(let r0:TR:=(q13 [(.s x0),(.i (qh .i64 (qaM (qm x0) (qm x1)) 1))])
 .br (okR r0) (let r1:TR:=(q13 [(.s x1),(.i (qh .i64 (qaM (qm x0) (qm x1)) 1))])
 .br (okR r1) (.br (ieq (qh .i64 (qaM (qm x0) (qm x1)) 1) (qh .i64 (qaM (qm x0) (qm x1)) 1)) (.br (q4Y (qh .i64 (qaM (qm x0) (qm x1)) 1) 140737488355328) (let r2:TR:=(qj kG [(.s (gS r0 0)),(.s (gS r1 0)),(.b x2),(.i 0),(.i (qz .i64 (qh .i64 (qaM (qm x0) (qm x1)) 1) 1)),(.r (q21 (qh .i64 (qaM (qm x0) (qm x1)) 1) [(.i 0)]))])
 .br (okR r2) (let r3:TR:=(zB [(.s (qd4 (gR r2 0)))])
 .br (okR r3) (.leaf (0,[(.s (gS r3 0))])) .fail) .fail) .fail) .fail) .fail) .fail):=by kernel_rfl
theorem qm0(x0:List UInt8)(x1:List UInt8):u9 [.s x0,.s x1]=(.br (ilt (qm x0) (qm x1)) (.leaf (0,[(.b true)])) (.br (ieq (qm x0) (qm x1)) (.leaf (0,[(.b (slt x0 x1))])) (.leaf (0,[(.b false)])))):=by kernel_rfl
theorem qmr(x0:List UInt8)(x1:List UInt8):q5q [.s x0,.s x1]=(let r0:TR:=(zU [(.s x0),(.s x1)])
 .br (okR r0) (.br (gB r0 2) (let r1:TR:=(zO [(.i (qh .i64 (gI r0 0) (gI r0 1)))])
 .br (okR r1) (.leaf (0,[(.s (gS r1 0))])) .fail) (let r1:TR:=(qu [(.s x0)])
 .br (okR r1) (let r2:TR:=(qu [(.s x1)])
 .br (okR r2) (let r3:TR:=(qI [(.s x0)])
 .br (okR r3) (let r4:TR:=(qI [(.s x1)])
 .br (okR r4) (.br (beq (gB r3 0) (gB r4 0)) (let r5:TR:=(vq [(.s (gS r1 0)),(.s (gS r2 0)),(.b true)])
 .br (okR r5) (.br (okR r3) (let r6:TR:=(qJ [(.s (gS r5 0)),(.b (gB r3 0))])
 .br (okR r6) (.leaf (0,[(.s (gS r6 0))])) .fail) .fail) .fail) (let r5:TR:=(u9 [(.s (gS r1 0)),(.s (gS r2 0))])
 .br (okR r5) (.br (gB r5 0) (let r6:TR:=(vq [(.s (gS r2 0)),(.s (gS r1 0)),(.b false)])
 .br (okR r6) (.br (okR r4) (let r7:TR:=(qJ [(.s (gS r6 0)),(.b (gB r4 0))])
 .br (okR r7) (.leaf (0,[(.s (gS r7 0))])) .fail) .fail) .fail) (let r6:TR:=(vq [(.s (gS r1 0)),(.s (gS r2 0)),(.b false)])
 .br (okR r6) (.br (okR r3) (let r7:TR:=(qJ [(.s (gS r6 0)),(.b (gB r3 0))])
 .br (okR r7) (.leaf (0,[(.s (gS r7 0))])) .fail) .fail) .fail)) .fail)) .fail) .fail) .fail) .fail)) .fail):=by kernel_rfl
theorem qkF(x0:List UInt8)(x1:List UInt8):j4 [.s x0,.s x1]=(let r0:TR:=(wE [(.s x1)])
 .br (okR r0) (let r1:TR:=(q5q [(.s x0),(.s (gS r0 0))])
 .br (okR r1) (.leaf (0,[(.s (gS r1 0))])) .fail) .fail):=by kernel_rfl
theorem qkA(x0:List UInt8)(x1:List UInt8):kS [.s x0,.s x1]=(let r0:TR:=(j4 [(.s x0),(.s x1)])
 .br (okR r0) (.br (seq (gS r0 0) [48]) (.leaf (0,[(.i 0)])) (let r1:TR:=(qI [(.s (gS r0 0))])
 .br (okR r1) (.br (gB r1 0) (.leaf (0,[(.i (-1))])) (.leaf (0,[(.i 1)]))) .fail)) .fail):=by kernel_rfl
theorem qdZ(y0:List UInt8)(y1:List UInt8)(y2:List UInt8)(y3:List UInt8)(y4:Int)(y5:Int):jl [.s y0,.s y1,.s y2,.s y3,.i y4,.i y5]=(let r0:TR:=(u9 [(.s y3),(.s y1)])
 .br (okR r0) (.br (not (gB r0 0)) (let r1:TR:=(vq [(.s y3),(.s y1),(.b false)])
 .br (okR r1) (.leaf (0,[(.s y0),(.s y1),(.s y2),(.s (gS r1 0)),(.i y4),(.i (qh .u8 y5 1))])) .fail) (.leaf (1,[(.s y0),(.s y1),(.s y2),(.s y3),(.i y4),(.i y5)]))) .fail):=by kernel_rfl
theorem qgd(y0:List UInt8)(y1:List UInt8)(y2:List UInt8)(y3:List UInt8)(y4:Int):kq [.s y0,.s y1,.s y2,.s y3,.i y4]=(.br (ilt y4 (qm y0)) (.br (q4Y (qh .i64 y4 1) (qm y0)) (.br (q4Y y4 (qh .i64 y4 1)) (.br (ile ((qm y3)+(qm (q8i y0 y4 (qh .i64 y4 1)))) 140737488355328) (let r0:TR:=(zB [(.s (qeL y3 (q8i y0 y4 (qh .i64 y4 1))))])
 .br (okR r0) (let r1:TR:=(qj jl [(.s y0),(.s y1),(.s y2),(.s (gS r0 0)),(.i y4),(.i 48)])
 .br (okR r1) (.br (ile ((qm (gS r1 2))+(qm (qd4 [[(.i (gI r1 5))]]))) 140737488355328) (.leaf (0,[(.s (gS r1 0)),(.s (gS r1 1)),(.s (qeL (gS r1 2) (qd4 [[(.i (gI r1 5))]]))),(.s (gS r1 3)),(.i (qh .i64 (gI r1 4) 1))])) .fail) .fail) .fail) .fail) .fail) .fail) (.leaf (1,[(.s y2),(.s y3)]))):=by kernel_rfl
theorem qhW(x0:List UInt8)(x1:List UInt8):q1p [.s x0,.s x1]=(let r0:TR:=(qj kq [(.s x0),(.s x1),(.s []),(.s [48]),(.i 0)])
 .br (okR r0) (let r1:TR:=(zB [(.s (gS r0 0))])
 .br (okR r1) (.leaf (0,[(.s (gS r1 0)),(.s (gS r0 1))])) .fail) .fail):=by kernel_rfl
theorem qfX(y0:List UInt8)(y1:List UInt8)(y2:Int)(y3:Int)(y4:R):yg [.s y0,.s y1,.i y2,.i y3,.r y4]=(.br (ilt y3 (qm y1)) (.br (inb (qh .i64 (qh .i64 y2 y3) 1) (qt y4)) (.br (inb y2 (qm y0)) (.br (inb y3 (qm y1)) (.br (inb (qh .i64 (qh .i64 y2 y3) 1) (qt y4)) (.leaf (0,[(.s y0),(.s y1),(.i y2),(.i (qh .i64 y3 1)),(.r (q9X y4 (qh .i64 (qh .i64 y2 y3) 1) 0 [(.i (qh .i64 (cI y4 (qh .i64 (qh .i64 y2 y3) 1) 0) (kK .i64 (vA .i64 (qz .u8 (sat y0 y2) 48)) (vA .i64 (qz .u8 (sat y1 y3) 48)))))]))])) .fail) .fail) .fail) .fail) (.leaf (1,[(.s y0),(.s y1),(.i y2),(.r y4)]))):=by kernel_rfl
theorem qfe(y0:List UInt8)(y1:List UInt8)(y2:Int)(y3:R):ye [.s y0,.s y1,.i y2,.r y3]=(.br (ilt y2 (qm y0)) (let r0:TR:=(qj yg [(.s y0),(.s y1),(.i y2),(.i 0),(.r y3)])
 .br (okR r0) (.leaf (0,[(.s (gS r0 0)),(.s (gS r0 1)),(.i (qh .i64 (gI r0 2) 1)),(.r (gR r0 3))])) .fail) (.leaf (1,[(.r y3)]))):=by kernel_rfl
theorem qeu(y0:Int)(y1:Int)(y2:R)(y3:R):jk [.i y0,.i y1,.r y2,.r y3]=(.br (ile 0 y1) (.br (inb y1 (qt y2)) (.br (inb y1 (qt y3)) (.leaf (0,[(.i (jP .i64 (qh .i64 y0 (cI y2 y1 0)) 10)),(.i (qz .i64 y1 1)),(.r y2),(.r (q9X y3 y1 0 [(.i (vA .u8 (qh .i64 48 (q4g (qh .i64 y0 (cI y2 y1 0)) 10))))]))])) .fail) .fail) (.leaf (1,[(.r y3)]))):=by kernel_rfl
theorem qhT(x0:List UInt8)(x1:List UInt8):kg [.s x0,.s x1]=(.br (ieq (qh .i64 (qm x0) (qm x1)) (qh .i64 (qm x0) (qm x1))) (.br (q4Y (qh .i64 (qm x0) (qm x1)) 17592186044416) (let r0:TR:=(qj ye [(.s x0),(.s x1),(.i 0),(.r (q21 (qh .i64 (qm x0) (qm x1)) [(.i 0)]))])
 .br (okR r0) (.br (ieq (qt (gR r0 0)) (qt (gR r0 0))) (.br (q4Y (qt (gR r0 0)) 140737488355328) (let r1:TR:=(qj jk [(.i 0),(.i (qz .i64 (qt (gR r0 0)) 1)),(.r (gR r0 0)),(.r (q21 (qt (gR r0 0)) [(.i 0)]))])
 .br (okR r1) (let r2:TR:=(zB [(.s (qd4 (gR r1 0)))])
 .br (okR r2) (.leaf (0,[(.s (gS r2 0))])) .fail) .fail) .fail) .fail) .fail) .fail) .fail):=by kernel_rfl
theorem qkx(x0:List UInt8)(x1:List UInt8):q0b [.s x0,.s x1]=(let r0:TR:=(zU [(.s x0),(.s x1)])
 .br (okR r0) (.br (gB r0 2) (.br (ile (qh .i64 (qm x0) (qm x1)) 18) (let r1:TR:=(zO [(.i (kK .i64 (gI r0 0) (gI r0 1)))])
 .br (okR r1) (.leaf (0,[(.s (gS r1 0))])) .fail) (let r1:TR:=(qu [(.s x0)])
 .br (okR r1) (let r2:TR:=(qu [(.s x1)])
 .br (okR r2) (let r3:TR:=(kg [(.s (gS r1 0)),(.s (gS r2 0))])
 .br (okR r3) (let r4:TR:=(qI [(.s x0)])
 .br (okR r4) (let r5:TR:=(qI [(.s x1)])
 .br (okR r5) (let r6:TR:=(qJ [(.s (gS r3 0)),(.b (not (beq (gB r4 0) (gB r5 0))))])
 .br (okR r6) (.leaf (0,[(.s (gS r6 0))])) .fail) .fail) .fail) .fail) .fail) .fail)) (let r1:TR:=(qu [(.s x0)])
 .br (okR r1) (let r2:TR:=(qu [(.s x1)])
 .br (okR r2) (let r3:TR:=(kg [(.s (gS r1 0)),(.s (gS r2 0))])
 .br (okR r3) (let r4:TR:=(qI [(.s x0)])
 .br (okR r4) (let r5:TR:=(qI [(.s x1)])
 .br (okR r5) (let r6:TR:=(qJ [(.s (gS r3 0)),(.b (not (beq (gB r4 0) (gB r5 0))))])
 .br (okR r6) (.leaf (0,[(.s (gS r6 0))])) .fail) .fail) .fail) .fail) .fail) .fail)) .fail):=by kernel_rfl
theorem qjD(x0:List UInt8)(x1:List UInt8):ux [.s x0,.s x1]=(let r0:TR:=(zU [(.s x0),(.s x1)])
 .br (okR r0) (.br (gB r0 2) (.br (ine (gI r0 1) 0) (.br (ine (q4g (gI r0 0) (gI r0 1)) 0) (.br (not (beq (ilt (q4g (gI r0 0) (gI r0 1)) 0) (ilt (gI r0 1) 0))) (.br (ine (gI r0 1) 0) (let r1:TR:=(zO [(.i (jP .i64 (qz .i64 (gI r0 0) (qh .i64 (q4g (gI r0 0) (gI r0 1)) (gI r0 1))) (gI r0 1)))])
 .br (okR r1) (let r2:TR:=(zO [(.i (qh .i64 (q4g (gI r0 0) (gI r0 1)) (gI r0 1)))])
 .br (okR r2) (.leaf (0,[(.s (gS r1 0)),(.s (gS r2 0))])) .fail) .fail) .fail) (.br (ine (gI r0 1) 0) (let r1:TR:=(zO [(.i (jP .i64 (qz .i64 (gI r0 0) (q4g (gI r0 0) (gI r0 1))) (gI r0 1)))])
 .br (okR r1) (let r2:TR:=(zO [(.i (q4g (gI r0 0) (gI r0 1)))])
 .br (okR r2) (.leaf (0,[(.s (gS r1 0)),(.s (gS r2 0))])) .fail) .fail) .fail)) (.br (ine (gI r0 1) 0) (let r1:TR:=(zO [(.i (jP .i64 (qz .i64 (gI r0 0) (q4g (gI r0 0) (gI r0 1))) (gI r0 1)))])
 .br (okR r1) (let r2:TR:=(zO [(.i (q4g (gI r0 0) (gI r0 1)))])
 .br (okR r2) (.leaf (0,[(.s (gS r1 0)),(.s (gS r2 0))])) .fail) .fail) .fail)) .fail) (let r1:TR:=(qu [(.s x0)])
 .br (okR r1) (let r2:TR:=(qu [(.s x1)])
 .br (okR r2) (let r3:TR:=(q1p [(.s (gS r1 0)),(.s (gS r2 0))])
 .br (okR r3) (let r4:TR:=(qI [(.s x0)])
 .br (okR r4) (let r5:TR:=(qI [(.s x1)])
 .br (okR r5) (let r6:TR:=(qJ [(.s (gS r3 0)),(.b (not (beq (gB r4 0) (gB r5 0))))])
 .br (okR r6) (.br (not (seq (gS r3 1) [48])) (.br (okR r4) (.br (okR r5) (.br (not (beq (gB r4 0) (gB r5 0))) (let r7:TR:=(j4 [(.s (gS r6 0)),(.s [49])])
 .br (okR r7) (let r8:TR:=(q0b [(.s (gS r7 0)),(.s x1)])
 .br (okR r8) (let r9:TR:=(j4 [(.s x0),(.s (gS r8 0))])
 .br (okR r9) (.leaf (0,[(.s (gS r7 0)),(.s (gS r9 0))])) .fail) .fail) .fail) (let r7:TR:=(q0b [(.s (gS r6 0)),(.s x1)])
 .br (okR r7) (let r8:TR:=(j4 [(.s x0),(.s (gS r7 0))])
 .br (okR r8) (.leaf (0,[(.s (gS r6 0)),(.s (gS r8 0))])) .fail) .fail)) .fail) .fail) (let r7:TR:=(q0b [(.s (gS r6 0)),(.s x1)])
 .br (okR r7) (let r8:TR:=(j4 [(.s x0),(.s (gS r7 0))])
 .br (okR r8) (.leaf (0,[(.s (gS r6 0)),(.s (gS r8 0))])) .fail) .fail)) .fail) .fail) .fail) .fail) .fail) .fail)) .fail):=by kernel_rfl
theorem qfh(y0:Int)(y1:Int):yb [.i y0,.i y1]=(.br (ilt 0 y1) (.br (ine y1 0) (.leaf (0,[(.i y1),(.i (q4g y0 y1))])) .fail) (.leaf (1,[(.i y0)]))):=by kernel_rfl
theorem qgN(y0:List UInt8)(y1:List UInt8):q0d [.s y0,.s y1]=(.br (not (seq y1 [48])) (let r0:TR:=(zU [(.s y0),(.s y1)])
 .br (okR r0) (.br (gB r0 2) (let r1:TR:=(qj yb [(.i (gI r0 0)),(.i (gI r0 1))])
 .br (okR r1) (let r2:TR:=(zO [(.i (gI r1 0))])
 .br (okR r2) (.leaf (2,[(.s (gS r2 0))])) .fail) .fail) (let r1:TR:=(ux [(.s y0),(.s y1)])
 .br (okR r1) (.leaf (0,[(.s y1),(.s (gS r1 1))])) .fail)) .fail) (.leaf (1,[(.s y0)]))):=by kernel_rfl
theorem qiJ(x0:List UInt8)(x1:List UInt8):q2I [.s x0,.s x1]=(let r0:TR:=(qu [(.s x0)])
 .br (okR r0) (let r1:TR:=(qJ [(.s (gS r0 0)),(.b false)])
 .br (okR r1) (let r2:TR:=(qu [(.s x1)])
 .br (okR r2) (let r3:TR:=(qJ [(.s (gS r2 0)),(.b false)])
 .br (okR r3) (let r4:TR:=(qj q0d [(.s (gS r1 0)),(.s (gS r3 0))])
 .br (okR r4) (.br (jIs r4 0) (.leaf (0,[(.s (gS r4 0))])) (.leaf (0,[(.s (gS r4 0))]))) .fail) .fail) .fail) .fail) .fail):=by kernel_rfl
theorem qkv(x0:List UInt8):q1M [.s x0]=(let r0:TR:=(yQ [(.s x0)])
 .br (okR r0) (let r1:TR:=(q1U [(.s (gS r0 0))])
 .br (okR r1) (.br (ieq (gI r1 0) 3) (.leaf (0,[(.i 3)])) (let r2:TR:=(q1U [(.s (gS r0 1))])
 .br (okR r2) (.br (ieq (gI r2 0) 3) (.leaf (0,[(.i 3)])) (.br (okR r1) (.br (ine (gI r1 0) 0) (.leaf (0,[(.i 11)])) (.br (okR r2) (.br (ine (gI r2 0) 0) (.leaf (0,[(.i 11)])) (let r3:TR:=(kV [(.s x0)])
 .br (okR r3) (.br (ile 0 (gI r3 0)) (let r4:TR:=(kS [(.s (gS r0 1)),(.s [49])])
 .br (okR r4) (.br (ile (gI r4 0) 0) (.leaf (0,[(.i 3)])) (let r5:TR:=(q2I [(.s (gS r0 0)),(.s (gS r0 1))])
 .br (okR r5) (.br (not (seq (gS r5 0) [49])) (.leaf (0,[(.i 3)])) (.leaf (0,[(.i 0)]))) .fail)) .fail) (.leaf (0,[(.i 0)]))) .fail)) .fail)) .fail)) .fail)) .fail) .fail):=by kernel_rfl
theorem qiU(x0:List UInt8):q0s [.s x0]=(let r0:TR:=(yQ [(.s x0)])
 .br (okR r0) (let r1:TR:=(kS [(.s (gS r0 0)),(.s [48])])
 .br (okR r1) (.leaf (0,[(.i (gI r1 0))])) .fail) .fail):=by kernel_rfl
theorem q2R(y0:Int)(y1:Int)(y2:List UInt8)(y3:List UInt8)(y4:List UInt8)(y5:R):q1i [.i y0,.i y1,.s y2,.s y3,.s y4,.r y5]=(.br (ilt y1 y0) (.br (inb y1 (qt y5)) (let r0:TR:=(q1M [(.s (cS y5 y1 0))])
 .br (okR r0) (.br (ine (gI r0 0) 0) (.leaf (2,[(.i (gI r0 0))])) (.leaf (0,[(.i y0),(.i (qh .i64 y1 1)),(.s y2),(.s y3),(.s y4),(.r y5)]))) .fail) .fail) (.leaf (1,[(.s y2),(.s y3),(.s y4)]))):=by kernel_rfl
theorem qkG(x0:List UInt8)(x1:List UInt8)(x2:List UInt8):q1L [.s x0,.s x1,.s x2]=(let r0:TR:=(qj q1i [(.i (qt [[(.s x0)],[(.s x1)],[(.s x2)]])),(.i 0),(.s x0),(.s x1),(.s x2),(.r [[(.s x0)],[(.s x1)],[(.s x2)]])])
 .br (okR r0) (.br (jIs r0 0) (let r1:TR:=(q0s [(.s (gS r0 2))])
 .br (okR r1) (.br (ilt (gI r1 0) 0) (.leaf (0,[(.i 2)])) (.leaf (0,[(.i 0)]))) .fail) (.leaf (0,[(.i (gI r0 0))]))) .fail):=by kernel_rfl
theorem q3N(y0:R)(y1:Int):q0t [.r y0,.i y1]=(.br (ilt y1 (qt y0)) (.br (inb y1 (qt y0)) (let r0:TR:=(q1L [(.s (cS y0 y1 0)),(.s (cS y0 y1 1)),(.s (cS y0 y1 2))])
 .br (okR r0) (.br (ine (gI r0 0) 0) (.leaf (2,[(.i (gI r0 0))])) (.leaf (0,[(.r y0),(.i (qh .i64 y1 1))]))) .fail) .fail) (.leaf (1,[(.r y0)]))):=by kernel_rfl
theorem qfP(x0:R):q1h [.r x0]=(.br (ilt 64 (qt x0)) (.leaf (0,[(.i 5)])) (let r0:TR:=(qj q0t [(.r x0),(.i 0)])
 .br (okR r0) (.br (jIs r0 0) (.br (ieq (qt (gR r0 0)) 0) (.leaf (0,[(.i 13)])) (.leaf (0,[(.i 0)]))) (.leaf (0,[(.i (gI r0 0))]))) .fail)):=by kernel_rfl
theorem qkw(x0:R):kQ [.r x0]=(.br (ile (qt x0) 5) (.br (okR (q4A [(.r x0)])) (.br (gB (q4A [(.r x0)]) 0) (.br (okR (q1h [(.r x0)])) (.leaf (0,[(.b (ieq (gI (q1h [(.r x0)]) 0) 0))])) .fail) (.leaf (0,[(.b false)]))) .fail) (.leaf (0,[(.b false)]))):=by kernel_rfl
theorem kL(y0:Int)(y1:Int)(y2:Int)(y3:Int)(y4:Int)(y5:Int)(y6:Int)(y7:R)(y8:Int)(y9:Int)(y10:Int)(y11:R)(y12:Int)(y13:R)(y14:R):qX [.i y0,.i y1,.i y2,.i y3,.i y4,.i y5,.i y6,.r y7,.i y8,.i y9,.i y10,.r y11,.i y12,.r y13,.r y14]=(.br (ilt y1 y0) (.br (inb y1 (qt y13)) (.br (inb (cI y13 y1 0) (qt y11)) (.br (ile ((qt y14)+(qt [[(.s (cS y11 (cI y13 y1 0) 0)),(.s (cS y11 (cI y13 y1 0) 1)),(.s (cS y11 (cI y13 y1 0) 2))]])) 2932031007402) (.leaf (0,[(.i y0),(.i (qh .i64 y1 1)),(.i y2),(.i y3),(.i y4),(.i y5),(.i y6),(.r y7),(.i y8),(.i y9),(.i y10),(.r y11),(.i y12),(.r y13),(.r (q7Y y14 [[(.s (cS y11 (cI y13 y1 0) 0)),(.s (cS y11 (cI y13 y1 0) 1)),(.s (cS y11 (cI y13 y1 0) 2))]]))])) .fail) .fail) .fail) (.leaf (1,[(.i y2),(.i y3),(.i y4),(.i y5),(.i y6),(.r y7),(.i y8),(.i y9),(.i y10),(.r y11),(.i y12),(.r y13),(.r y14)]))):=by kernel_rfl
theorem q2o(y0:Int)(y1:Int)(y2:Int)(y3:Int)(y4:R)(y5:Int):wY [.i y0,.i y1,.i y2,.i y3,.r y4,.i y5]=(.br (ilt y1 (qt y4)) (let r0:TR:=(qj qX [(.i (qt [[(.i y0)],[(.i y1)]])),(.i 0),(.i y0),(.i y1),(.i y2),(.i y3),(.i y1),(.r y4),(.i (qt y4)),(.i y0),(.i y1),(.r y4),(.i y5),(.r [[(.i y0)],[(.i y1)]]),(.r [])])
 .br (okR r0) (let r1:TR:=(qA [(.r (gR r0 12)),(.i (gI r0 10))])
 .br (okR r1) (.br (not (gB r1 3)) (.br (ieq (gI r1 4) 0) (.leaf (2,[(.i 0),(.r [[(.i (gI r0 0))],[(.i (gI r0 1))]])])) (.leaf (0,[(.i (gI r0 0)),(.i (qh .i64 (gI r0 1) 1)),(.i (gI r0 2)),(.i (gI r0 3)),(.r (gR r0 9)),(.i (gI r1 4))]))) (.leaf (0,[(.i (gI r0 0)),(.i (qh .i64 (gI r0 1) 1)),(.i (gI r0 2)),(.i (gI r0 3)),(.r (gR r0 9)),(.i (gI r1 4))]))) .fail) .fail) (.leaf (1,[(.i y2),(.i y3),(.r y4),(.i y5)]))):=by kernel_rfl
theorem q3d(y0:Int)(y1:Int)(y2:R)(y3:Int):vj [.i y0,.i y1,.r y2,.i y3]=(.br (ilt y1 y0) (let r0:TR:=(qj wY [(.i y1),(.i (qh .i64 y1 1)),(.i y0),(.i y1),(.r y2),(.i y3)])
 .br (okR r0) (.br (jIs r0 0) (.leaf (0,[(.i (gI r0 0)),(.i (qh .i64 (gI r0 1) 1)),(.r (gR r0 2)),(.i (gI r0 3))])) (.leaf (2,[(.i (gI r0 0)),(.r (gR r0 1))]))) .fail) (.leaf (1,[(.r y2),(.i y3)]))):=by kernel_rfl
theorem kN(y0:Int)(y1:Int)(y2:Int)(y3:Int)(y4:Int)(y5:Int)(y6:Int)(y7:Int)(y8:R)(y9:Int)(y10:Int)(y11:Int)(y12:Int)(y13:R)(y14:Int)(y15:R)(y16:R):qW [.i y0,.i y1,.i y2,.i y3,.i y4,.i y5,.i y6,.i y7,.r y8,.i y9,.i y10,.i y11,.i y12,.r y13,.i y14,.r y15,.r y16]=(.br (ilt y1 y0) (.br (inb y1 (qt y15)) (.br (inb (cI y15 y1 0) (qt y13)) (.br (ile ((qt y16)+(qt [[(.s (cS y13 (cI y15 y1 0) 0)),(.s (cS y13 (cI y15 y1 0) 1)),(.s (cS y13 (cI y15 y1 0) 2))]])) 2932031007402) (.leaf (0,[(.i y0),(.i (qh .i64 y1 1)),(.i y2),(.i y3),(.i y4),(.i y5),(.i y6),(.i y7),(.r y8),(.i y9),(.i y10),(.i y11),(.i y12),(.r y13),(.i y14),(.r y15),(.r (q7Y y16 [[(.s (cS y13 (cI y15 y1 0) 0)),(.s (cS y13 (cI y15 y1 0) 1)),(.s (cS y13 (cI y15 y1 0) 2))]]))])) .fail) .fail) .fail) (.leaf (1,[(.i y2),(.i y3),(.i y4),(.i y5),(.i y6),(.i y7),(.r y8),(.i y9),(.i y10),(.i y11),(.i y12),(.r y13),(.i y14),(.r y15),(.r y16)]))):=by kernel_rfl
theorem q2t(y0:Int)(y1:Int)(y2:Int)(y3:Int)(y4:Int)(y5:R)(y6:Int):wM [.i y0,.i y1,.i y2,.i y3,.i y4,.r y5,.i y6]=(.br (ilt y2 (qt y5)) (let r0:TR:=(qj qW [(.i (qt [[(.i y0)],[(.i y1)],[(.i y2)]])),(.i 0),(.i y0),(.i y1),(.i y2),(.i y3),(.i y4),(.i y2),(.r y5),(.i (qt y5)),(.i y0),(.i y1),(.i y2),(.r y5),(.i y6),(.r [[(.i y0)],[(.i y1)],[(.i y2)]]),(.r [])])
 .br (okR r0) (let r1:TR:=(qA [(.r (gR r0 14)),(.i (gI r0 12))])
 .br (okR r1) (.br (not (gB r1 3)) (.br (ieq (gI r1 4) 0) (.leaf (2,[(.i 0),(.r [[(.i (gI r0 0))],[(.i (gI r0 1))],[(.i (gI r0 2))]])])) (.leaf (0,[(.i (gI r0 0)),(.i (gI r0 1)),(.i (qh .i64 (gI r0 2) 1)),(.i (gI r0 3)),(.i (gI r0 4)),(.r (gR r0 11)),(.i (gI r1 4))]))) (.leaf (0,[(.i (gI r0 0)),(.i (gI r0 1)),(.i (qh .i64 (gI r0 2) 1)),(.i (gI r0 3)),(.i (gI r0 4)),(.r (gR r0 11)),(.i (gI r1 4))]))) .fail) .fail) (.leaf (1,[(.i y0),(.i y1),(.i y3),(.i y4),(.r y5),(.i y6)]))):=by kernel_rfl
theorem q2r(y0:Int)(y1:Int)(y2:Int)(y3:Int)(y4:R)(y5:Int):v6 [.i y0,.i y1,.i y2,.i y3,.r y4,.i y5]=(.br (ilt y1 (qt y4)) (let r0:TR:=(qj wM [(.i y0),(.i y1),(.i (qh .i64 y1 1)),(.i y2),(.i y3),(.r y4),(.i y5)])
 .br (okR r0) (.br (jIs r0 0) (.leaf (0,[(.i (gI r0 0)),(.i (qh .i64 (gI r0 1) 1)),(.i (gI r0 2)),(.i (gI r0 3)),(.r (gR r0 4)),(.i (gI r0 5))])) (.leaf (2,[(.i (gI r0 0)),(.r (gR r0 1))]))) .fail) (.leaf (1,[(.i y2),(.i y3),(.r y4),(.i y5)]))):=by kernel_rfl
theorem q2F(y0:Int)(y1:Int)(y2:R)(y3:Int):wX [.i y0,.i y1,.r y2,.i y3]=(.br (ilt y1 y0) (let r0:TR:=(qj v6 [(.i y1),(.i (qh .i64 y1 1)),(.i y0),(.i y1),(.r y2),(.i y3)])
 .br (okR r0) (.br (jIs r0 0) (.leaf (0,[(.i (gI r0 0)),(.i (qh .i64 (gI r0 1) 1)),(.r (gR r0 2)),(.i (gI r0 3))])) (.leaf (2,[(.i (gI r0 0)),(.r (gR r0 1))]))) .fail) (.leaf (1,[(.i y3)]))):=by kernel_rfl
theorem qbs(x0:R):qT [.r x0]=(let r0:TR:=(zq [(.r x0)])
 .br (okR r0) (.br (ine (gI r0 0) 0) (.leaf (0,[(.r []),(.i (gI r0 0))])) (let r1:TR:=(qj vj [(.i (qt x0)),(.i 0),(.r x0),(.i 0)])
 .br (okR r1) (.br (jIs r1 0) (let r2:TR:=(qj wX [(.i (qt (gR r1 0))),(.i 0),(.r (gR r1 0)),(.i (gI r1 1))])
 .br (okR r2) (.br (jIs r2 0) (.leaf (0,[(.r []),(.i (gI r2 0))])) (.leaf (0,[(.r (gR r2 1)),(.i (gI r2 0))]))) .fail) (.leaf (0,[(.r (gR r1 1)),(.i (gI r1 0))]))) .fail)) .fail):=by kernel_rfl
theorem qm5(x0:List UInt8)(x1:List UInt8)(x2:List UInt8):wQ [.s x0,.s x1,.s x2]=(.leaf (0,[(.s x0),(.s x1),(.s x2)])):=by kernel_rfl
theorem qhg(x0:List UInt8)(x1:List UInt8)(x2:List UInt8)(x3:List UInt8)(x4:Int):q0c [.s x0,.s x1,.s x2,.s x3,.i x4]=(let r0:TR:=(zT [(.s x0),(.s x1),(.s x2),(.s x3),(.i x4)])
 .br (okR r0) (let r1:TR:=(zv [(.s (gS r0 0)),(.s (gS r0 1)),(.s (gS r0 0)),(.s (gS r0 1)),(.i (gI r0 2))])
 .br (okR r1) (.leaf (0,[(.s (gS r1 0)),(.i (gI r1 1))])) .fail) .fail):=by kernel_rfl
theorem qgl(x0:List UInt8)(x1:List UInt8)(x2:List UInt8)(x3:List UInt8)(x4:List UInt8)(x5:List UInt8)(x6:List UInt8)(x7:Int):wN [.s x0,.s x1,.s x2,.s x3,.s x4,.s x5,.s x6,.i x7]=(let r0:TR:=(q0c [(.s x0),(.s x1),(.s x3),(.s x4),(.i x7)])
 .br (okR r0) (let r1:TR:=(qY [(.s x2),(.s x5),(.i (gI r0 1))])
 .br (okR r1) (let r2:TR:=(qB [(.s (gS r0 0)),(.s (gS r1 0)),(.i (gI r1 1))])
 .br (okR r2) (let r3:TR:=(qH [(.s x2),(.s x5),(.i (gI r2 1))])
 .br (okR r3) (let r4:TR:=(zR [(.s (gS r2 0)),(.s x6),(.s (gS r3 0)),(.i (gI r3 1))])
 .br (okR r4) (.leaf (0,[(.i (gI r4 0)),(.i (gI r4 1))])) .fail) .fail) .fail) .fail) .fail):=by kernel_rfl
theorem qeh(x0:List UInt8)(x1:List UInt8)(x2:Int):yW [.s x0,.s x1,.i x2]=(let r0:TR:=(qB [(.s x0),(.s x1),(.i x2)])
 .br (okR r0) (let r1:TR:=(zR [(.s (gS r0 0)),(.s [48]),(.s [48]),(.i (gI r0 1))])
 .br (okR r1) (.leaf (0,[(.i (gI r1 0)),(.i (gI r1 1))])) .fail) .fail):=by kernel_rfl
theorem qdf(x0:List UInt8)(x1:List UInt8)(x2:List UInt8)(x3:List UInt8)(x4:List UInt8)(x5:List UInt8)(x6:Int):wJ [.s x0,.s x1,.s x2,.s x3,.s x4,.s x5,.i x6]=(let r0:TR:=(yW [(.s x2),(.s x5),(.i x6)])
 .br (okR r0) (.br (ile (gI r0 0) 0) (let r1:TR:=(wN [(.s x0),(.s x1),(.s x2),(.s x3),(.s x4),(.s x5),(.s [50]),(.i (gI r0 1))])
 .br (okR r1) (.leaf (0,[(.b (ile (gI r1 0) 0)),(.i (gI r1 1))])) .fail) (.leaf (0,[(.b false),(.i (gI r0 1))]))) .fail):=by kernel_rfl
theorem q9P(y0:Int)(y1:Int)(y2:List UInt8)(y3:List UInt8)(y4:List UInt8)(y5:List UInt8)(y6:List UInt8)(y7:List UInt8)(y8:R):q0g [.i y0,.i y1,.s y2,.s y3,.s y4,.s y5,.s y6,.s y7,.r y8]=(.br (ilt y1 y0) (.br (inb y1 (qt y8)) (let r0:TR:=(jI [(.s (cS y8 y1 0)),(.s (cS y8 y1 1)),(.s (cS y8 y1 2))])
 .br (okR r0) (.br (ine (gI r0 0) 0) (.leaf (2,[(.i 0),(.i (gI r0 0))])) (.leaf (0,[(.i y0),(.i (qh .i64 y1 1)),(.s y2),(.s y3),(.s y4),(.s y5),(.s y6),(.s y7),(.r y8)]))) .fail) .fail) (.leaf (1,[(.s y2),(.s y3),(.s y4),(.s y5),(.s y6),(.s y7)]))):=by kernel_rfl
theorem qiW(x0:List UInt8)(x1:List UInt8)(x2:List UInt8)(x3:List UInt8)(x4:List UInt8)(x5:List UInt8):q2i [.s x0,.s x1,.s x2,.s x3,.s x4,.s x5]=(let r0:TR:=(qj q0g [(.i (qt [[(.s x0),(.s x1),(.s x2)],[(.s x3),(.s x4),(.s x5)]])),(.i 0),(.s x0),(.s x1),(.s x2),(.s x3),(.s x4),(.s x5),(.r [[(.s x0),(.s x1),(.s x2)],[(.s x3),(.s x4),(.s x5)]])])
 .br (okR r0) (.br (jIs r0 0) (let r1:TR:=(wJ [(.s (gS r0 0)),(.s (gS r0 1)),(.s (gS r0 2)),(.s (gS r0 3)),(.s (gS r0 4)),(.s (gS r0 5)),(.i 0)])
 .br (okR r1) (.br (gB r1 0) (.br (ine (gI r1 1) 0) (.leaf (0,[(.i 0),(.i (gI r1 1))])) (.leaf (0,[(.i 2),(.i 0)]))) (let r2:TR:=(wJ [(.s (gS r0 3)),(.s (gS r0 4)),(.s (gS r0 5)),(.s (gS r0 0)),(.s (gS r0 1)),(.s (gS r0 2)),(.i (gI r1 1))])
 .br (okR r2) (.br (gB r2 0) (.br (ine (gI r2 1) 0) (.leaf (0,[(.i 0),(.i (gI r2 1))])) (.leaf (0,[(.i 3),(.i 0)]))) (let r3:TR:=(wN [(.s (gS r0 0)),(.s (gS r0 1)),(.s (gS r0 2)),(.s (gS r0 3)),(.s (gS r0 4)),(.s (gS r0 5)),(.s [45,50]),(.i (gI r2 1))])
 .br (okR r3) (.br (ine (gI r3 1) 0) (.leaf (0,[(.i 0),(.i (gI r3 1))])) (.leaf (0,[(.i (qz .i64 0 (gI r3 0))),(.i 0)]))) .fail)) .fail)) .fail) (.leaf (0,[(.i (gI r0 0)),(.i (gI r0 1))]))) .fail):=by kernel_rfl
theorem q2m(y0:R)(y1:R)(y2:Int)(y3:Int):va [.r y0,.r y1,.i y2,.i y3]=(.br (ilt y3 y2) (.br (inb y3 (qt y0)) (.br (inb y3 (qt y1)) (.br (ine (cI y0 y3 0) (cI y1 y3 0)) (.leaf (2,[(.b false)])) (.leaf (0,[(.r y0),(.r y1),(.i y2),(.i (qh .i64 y3 1))]))) .fail) .fail) (.leaf (1,[]))):=by kernel_rfl
theorem qaf(x0:R)(x1:R):wj [.r x0,.r x1]=(.br (ine (qt x0) (qt x1)) (.leaf (0,[(.b false)])) (let r0:TR:=(qj va [(.r x0),(.r x1),(.i (qt x0)),(.i 0)])
 .br (okR r0) (.br (jIs r0 0) (.leaf (0,[(.b true)])) (.leaf (0,[(.b (gB r0 0))]))) .fail)):=by kernel_rfl
theorem qkH  : jS []=(let r0:TR:=(wQ [(.s [48]),(.s [48]),(.s [52])])
 .br (okR r0) (let r1:TR:=(wQ [(.s [52]),(.s [48]),(.s [52])])
 .br (okR r1) (let r2:TR:=(qV [(.r [[(.s (gS r0 0)),(.s (gS r0 1)),(.s (gS r0 2))],[(.s (gS r1 0)),(.s (gS r1 1)),(.s (gS r1 2))]])])
 .br (okR r2) (let r3:TR:=(wQ [(.s [48]),(.s [48]),(.s [53])])
 .br (okR r3) (let r4:TR:=(wQ [(.s [52]),(.s [48]),(.s [53])])
 .br (okR r4) (let r5:TR:=(qV [(.r [[(.s (gS r3 0)),(.s (gS r3 1)),(.s (gS r3 2))],[(.s (gS r4 0)),(.s (gS r4 1)),(.s (gS r4 2))]])])
 .br (okR r5) (let r6:TR:=(wQ [(.s [48]),(.s [48]),(.s [49])])
 .br (okR r6) (let r7:TR:=(wQ [(.s [52]),(.s [48]),(.s [49])])
 .br (okR r7) (let r8:TR:=(qT [(.r [[(.s (gS r6 0)),(.s (gS r6 1)),(.s (gS r6 2))],[(.s (gS r7 0)),(.s (gS r7 1)),(.s (gS r7 2))]])])
 .br (okR r8) (.br (okR r6) (let r9:TR:=(wQ [(.s [50]),(.s [48]),(.s [49])])
 .br (okR r9) (let r10:TR:=(wQ [(.s [49]),(.s [53,47,51]),(.s [49])])
 .br (okR r10) (let r11:TR:=(qT [(.r [[(.s (gS r6 0)),(.s (gS r6 1)),(.s (gS r6 2))],[(.s (gS r9 0)),(.s (gS r9 1)),(.s (gS r9 2))],[(.s (gS r10 0)),(.s (gS r10 1)),(.s (gS r10 2))]])])
 .br (okR r11) (.br (okR r6) (let r12:TR:=(wQ [(.s [49]),(.s [48]),(.s [52])])
 .br (okR r12) (let r13:TR:=(q2i [(.s (gS r6 0)),(.s (gS r6 1)),(.s (gS r6 2)),(.s (gS r12 0)),(.s (gS r12 1)),(.s (gS r12 2))])
 .br (okR r13) (.br (ieq (qh .i64 (qh .i64 (qh .i64 (qh .i64 (gI r2 4) (gI r5 4)) (gI r8 1)) (gI r11 1)) (gI r13 1)) 0) (.br (gB r2 0) (.br (qsT (ieq (gI r2 1) 0) (qsT (ieq (gI r2 2) 1) (qsT (ieq (gI r2 3) 0) true))) (.br (gB r5 0) (.br (qsT (ieq (gI r5 1) 0) (qsT (ieq (gI r5 2) 1) (qsT (ieq (gI r5 3) 1) true))) (let r14:TR:=(wj [(.r (gR r8 0)),(.r [[(.i 0)],[(.i 1)]])])
 .br (okR r14) (.br (gB r14 0) (let r15:TR:=(wj [(.r (gR r11 0)),(.r [[(.i 0)],[(.i 1)],[(.i 2)]])])
 .br (okR r15) (.br (gB r15 0) (.leaf (0,[(.b (ieq (gI r13 0) 2))])) (.leaf (0,[(.b false)]))) .fail) (.leaf (0,[(.b false)]))) .fail) (.leaf (0,[(.b false)]))) (.leaf (0,[(.b false)]))) (.leaf (0,[(.b false)]))) (.leaf (0,[(.b false)]))) (.leaf (0,[(.b false)]))) .fail) .fail) .fail) .fail) .fail) .fail) .fail) .fail) .fail) .fail) .fail) .fail) .fail) .fail) .fail) .fail):=by kernel_rfl
theorem qkp(x0:R)(x1:Int)(x2:Int)(x3:Int):uz [.r x0,.i x1,.i x2,.i x3]=(let r0:TR:=(zq [(.r x0)])
 .br (okR r0) (.br (ine (gI r0 0) 0) (.leaf (0,[(.b false),(.i (gI r0 0))])) (.br (ilt x1 0) (.leaf (0,[(.b false),(.i 2)])) (.br (ile (qt x0) x1) (.leaf (0,[(.b false),(.i 2)])) (.br (ilt x2 0) (.leaf (0,[(.b false),(.i 2)])) (.br (ile (qt x0) x2) (.leaf (0,[(.b false),(.i 2)])) (.br (ilt x2 x1) (.leaf (0,[(.b false),(.i 9)])) (.br (ilt x3 (-1)) (.leaf (0,[(.b false),(.i 1)])) (.br (ilt 1 x3) (.leaf (0,[(.b false),(.i 1)])) (let r1:TR:=(qL [(.r x0),(.i x1),(.i x2),(.i x3),(.i 0)])
 .br (okR r1) (.leaf (0,[(.b (gB r1 0)),(.i (gI r1 1))])) .fail))))))))) .fail):=by kernel_rfl
theorem q3L(y0:R)(y1:Int)(y2:Int):wh [.r y0,.i y1,.i y2]=(.br (ilt y2 (qt y0)) (.br (inb y2 (qt y0)) (.leaf (0,[(.r y0),(.i (q61 y1 (cI y0 y2 0))),(.i (qh .i64 y2 1))])) .fail) (.leaf (1,[(.i y1)]))):=by kernel_rfl
theorem qbD(x0:R):zY [.r x0]=(.br (ilt (qt x0) 1) .fail (.br (inb 0 (qt x0)) (let r0:TR:=(qj wh [(.r x0),(.i (cI x0 0 0)),(.i 1)])
 .br (okR r0) (.leaf (0,[(.i (gI r0 0))])) .fail) .fail)):=by kernel_rfl
theorem q3C(y0:R)(y1:Int)(y2:Int):wg [.r y0,.i y1,.i y2]=(.br (ilt y2 (qt y0)) (.br (inb y2 (qt y0)) (.leaf (0,[(.r y0),(.i (qaM y1 (cI y0 y2 0))),(.i (qh .i64 y2 1))])) .fail) (.leaf (1,[(.i y1)]))):=by kernel_rfl
theorem qca(x0:R):zX [.r x0]=(.br (ilt (qt x0) 1) .fail (.br (inb 0 (qt x0)) (let r0:TR:=(qj wg [(.r x0),(.i (cI x0 0 0)),(.i 1)])
 .br (okR r0) (.leaf (0,[(.i (gI r0 0))])) .fail) .fail)):=by kernel_rfl
theorem q3K(x0:R):qD [.r x0]=(.br (ilt 0 (qt x0)) (.br (ile ((qt [])+(qt x0)) 2932031007402) (.leaf (0,[(.r (q7Y [] x0))])) .fail) .fail):=by kernel_rfl
theorem q4f(y0:R)(y1:R)(y2:Int)(y3:Int)(y4:R):wT [.r y0,.r y1,.i y2,.i y3,.r y4]=(.br (ilt y3 y2) (.br (inb y3 (qt y1)) (.br (inb (cI y1 y3 0) (qt y0)) (.br (ile ((qt y4)+(qt [[(.s (cS y0 (cI y1 y3 0) 0)),(.s (cS y0 (cI y1 y3 0) 1)),(.s (cS y0 (cI y1 y3 0) 2))]])) 2932031007402) (.leaf (0,[(.r y0),(.r y1),(.i y2),(.i (qh .i64 y3 1)),(.r (q7Y y4 [[(.s (cS y0 (cI y1 y3 0) 0)),(.s (cS y0 (cI y1 y3 0) 1)),(.s (cS y0 (cI y1 y3 0) 2))]]))])) .fail) .fail) .fail) (.leaf (1,[(.r y4)]))):=by kernel_rfl
theorem q4e(y0:Int)(y1:Int)(y2:R):v8 [.i y0,.i y1,.r y2]=(.br (ilt y1 y0) (let r0:TR:=(qD [(.r y2)])
 .br (okR r0) (.br (ilt 0 (qt (gR r0 0))) (.br (ile 0 y1) (.br (ile y1 (qh .i64 y1 1)) (.br (ile (qh .i64 y1 1) (qt (gR r0 0))) (.br (ieq (qt (qoQ (gR r0 0) y1 (qh .i64 y1 1))) 0) (.leaf (2,[(.b false)])) (let r1:TR:=(qV [(.r (qoQ (gR r0 0) y1 (qh .i64 y1 1)))])
 .br (okR r1) (.br (ine (gI r1 4) 0) (.leaf (2,[(.b false)])) (.br (not (gB r1 0)) (.leaf (2,[(.b false)])) (.leaf (0,[(.i y0),(.i (qh .i64 y1 1)),(.r y2)])))) .fail)) .fail) .fail) .fail) .fail) .fail) (.leaf (1,[]))):=by kernel_rfl
theorem q03(x0:R):jh [.r x0]=(let r0:TR:=(kQ [(.r x0)])
 .br (okR r0) (.br (not (gB r0 0)) (let r1:TR:=(jS [])
 .br (okR r1) (.leaf (0,[(.b (gB r1 0))])) .fail) (let r1:TR:=(qV [(.r x0)])
 .br (okR r1) (let r2:TR:=(qT [(.r x0)])
 .br (okR r2) (.br (ine (gI r1 4) 0) (.leaf (0,[(.b false)])) (.br (ine (gI r2 1) 0) (.leaf (0,[(.b false)])) (.br (not (beq (gB r1 0) (ieq (qt (gR r2 0)) 0))) (.leaf (0,[(.b false)])) (.br (gB r1 0) (let r3:TR:=(uz [(.r x0),(.i (gI r1 1)),(.i (gI r1 2)),(.i (gI r1 3))])
 .br (okR r3) (.br (ieq (gI r3 1) 0) (.br (gB r3 0) (let r4:TR:=(jS [])
 .br (okR r4) (.leaf (0,[(.b (gB r4 0))])) .fail) (.leaf (0,[(.b false)]))) (.leaf (0,[(.b false)]))) .fail) (.br (ilt 3 (qt (gR r2 0))) (.leaf (0,[(.b false)])) (let r3:TR:=(zY [(.r (gR r2 0))])
 .br (okR r3) (.br (ilt (gI r3 0) 0) (.leaf (0,[(.b false)])) (let r4:TR:=(zX [(.r (gR r2 0))])
 .br (okR r4) (.br (ile (qt x0) (gI r4 0)) (.leaf (0,[(.b false)])) (let r5:TR:=(qj wT [(.r x0),(.r (gR r2 0)),(.i (qt (gR r2 0))),(.i 0),(.r [])])
 .br (okR r5) (let r6:TR:=(qV [(.r (gR r5 0))])
 .br (okR r6) (.br (ine (gI r6 4) 0) (.leaf (0,[(.b false)])) (.br (gB r6 0) (.leaf (0,[(.b false)])) (let r7:TR:=(qj v8 [(.i (qt (gR r5 0))),(.i 0),(.r (gR r5 0))])
 .br (okR r7) (.br (jIs r7 0) (let r8:TR:=(jS [])
 .br (okR r8) (.leaf (0,[(.b (gB r8 0))])) .fail) (.leaf (0,[(.b (gB r7 0))]))) .fail))) .fail) .fail)) .fail)) .fail)))))) .fail) .fail)) .fail):=by kernel_rfl
end Go.Eng

namespace Go.Eng
mutual
def qgv{H:Type}:DataW H→List U
 | .lit (.bool b)=>[.b b]
 | .lit (.int _ n)=>[.i n]
 | .lit (.string s)=>[.s s]
 | .nil=>[.l []]
 | .slice es _=>[.l (qp0 es)]
 | .agg ps=>qsB ps
 | _=>[.i 0]
def qsB{H:Type}:List (DataW H)→List U
 | []=>[]
 | d::l=>qgv d++qsB l
def qp0{H:Type}:List (DataW H)→List (List U)
 | []=>[]
 | d::l=>qgv d::qp0 l
end
theorem qcB{H:Type}:∀l:List (DataW H),qp0 l=l.map qgv
 | []=>rfl
 | d::l=>by simp[qp0,qcB l]
inductive UFit:Sh→U→Prop
 | int (k:IntKind) (n:Int) (h0:k.min≤n) (h1:n≤k.max):UFit (.int k) (.i n)
 | bool (b:Bool):UFit .bool (.b b)
 | str (s:List UInt8) (h:s.length≤maxLen):UFit .str (.s s)
 | sl (row:List Sh) (l:R) (h:l.length≤maxLen) (hl:∀r,r∈l→r.length=row.length) (hf:∀(r:List U) (j:Nat) (s:Sh) (u:U),r∈l→row[j]?=some s→r[j]?=some u→UFit s u):UFit (.sl row) (.l l)
inductive CR (W:World) (M:Nat→Prop):List Sh→List U→List Value→Prop
 | nil:CR W M [] [] []
 | cons {s:Sh} {u:U} {v:Value} {sh:List Sh} {us:List U} {vs:List Value} (h:RepU W M s u v) (f:UFit s u) (t:CR W M sh us vs):CR W M (s::sh) (u::us) (v::vs)
theorem CR.append{W:World}{M:Nat→Prop}{a a':List Sh}{b b':List U}{c c':List Value}(h:CR W M a b c)(k:CR W M a' b' c'):CR W M (a++a') (b++b') (c++c'):=by
 induction h with
 | nil=>exact k
 | cons h f t ih=>exact .cons h f ih
theorem CR.len{W:World}{M:Nat→Prop}{a:List Sh}{b:List U}{c:List Value}(h:CR W M a b c):b.length=a.length∧c.length=a.length:=by
 induction h with
 | nil=>exact⟨rfl,rfl⟩
 | cons h f t ih=>simp[ih.1,ih.2]
theorem CR.get{W:World}{M:Nat→Prop}{a:List Sh}{b:List U}{c:List Value}(h:CR W M a b c):∀(j:Nat) (s:Sh),a[j]?=some s→∃u v,b[j]?=some u∧c[j]?=some v∧RepU W M s u v∧UFit s u:=by
 induction h with
 | nil=>intro j s hj;simp at hj
 | cons h f t ih=>
  intro j s hj
  cases j with
  | zero=>simp at hj;subst hj;exact⟨_,_,rfl,rfl,h,f⟩
  | succ j=>simpa using ih j s (by simpa using hj)
def qn0:Nat→List (Nat×TypeId×Nat)→Bool
 | _,[]=>true
 | o,f::l=>Nat.beq f.1 o&&qn0 (o+f.2.2) l
def qsb:List (Nat×TypeId×Nat)→Nat
 | []=>0
 | f::l=>f.2.2+qsb l
def qpk(x:TI):Bool:=match x.d with
 | .struct fs=>qn0 0 fs&&Nat.beq (qsb fs) x.size
 | .array n _ es=>Nat.beq (n*es) x.size
 | .slice _ es=>Nat.blt 0 es
 | _=>true
theorem qvi{E:Env}(h:E.tt.all (fun x=>qpk x.2)=true)(t:TypeId):qpk (E.ty t)=true:=by
 unfold Env.ty
 cases hf:E.tt.find? fun x=>x.1==t with
 | none=>rfl
 | some x=>exact List.all_eq_true.1 h x (List.mem_of_find?_eq_some hf)
section
variable {H:Type} {enc:TypeId×Value→H} {P:Program} {W:World} {base:Nat} {sp:Nat→Bool} {held:Bool} {E:Env}
theorem qls{M:Nat→Prop}{fuel n:Nat}{cs:List Value}(ih:∀t cs d ps sh,E.shape n t=some sh→DataW.trod enc P W base sp held fuel t cs=some (d,ps)→CR W M sh (qgv d) cs) :
  ∀(fs:List (Nat×TypeId×Nat)) (o:Nat) (xs:List (DataW H×List MemPlace)) (shs:List (List Sh)),qn0 o fs=true→o+qsb fs=cs.length→fs.mapM (fun f=>E.shape n f.2.1)=some shs →
   xs.length=fs.length→(∀(i:Nat) (f:Nat×TypeId×Nat),fs[i]?=some f→DataW.trod enc P W base sp held fuel f.2.1 ((cs.drop f.1).take f.2.2)=xs[i]?) →
   CR W M shs.flatten (qsB (xs.map (·.1))) (cs.drop o)
 | [],o,xs,shs,_,hs,hsh,hl,_=>by
  simp[qsb] at hs hsh hl
  subst hsh hl
  have:cs.drop o=[]:=List.drop_eq_nil_of_le (by omega)
  rw[this]
  exact .nil
 | f::fs,o,xs,shs,hlay,hs,hsh,hl,hx=>by
  simp only[qn0,Bool.and_eq_true] at hlay
  obtain⟨h1,h2⟩:=hlay
  have ho:f.1=o:=Nat.eq_of_beq_eq_true h1
  simp only[qsb] at hs
  rw[List.mapM_cons] at hsh
  cases hsf:E.shape n f.2.1 with
  | none=>rw[hsf] at hsh;cases hsh
  | some shf=>
   cases hrest:fs.mapM (fun f=>E.shape n f.2.1) with
   | none=>rw[hsf,hrest] at hsh;cases hsh
   | some shr=>
    rw[hsf,hrest] at hsh
    cases hsh
    cases xs with
    | nil=>simp at hl
    | cons x xs=>
     have h0:=hx 0 f rfl
     simp only[List.getElem?_cons_zero] at h0
     have c1:=ih f.2.1 _ x.1 x.2 shf hsf h0
     rw[ho] at c1
     have c2:=qls (cs:=cs) (M:=M) (fuel:=fuel) ih fs (o+f.2.2) xs shr h2 (by omega) hrest (by simpa using hl) fun i g hg=>by
      have:=hx (i+1) g (by simpa using hg)
      simpa using this
     have hsplit:cs.drop o=(cs.drop o).take f.2.2++cs.drop (o+f.2.2):=by
      rw[←List.drop_drop,List.take_append_drop]
     rw[hsplit]
     simp only[List.flatten_cons,List.map_cons,qsB]
     exact c1.append c2
theorem qoL{M:Nat→Prop}{fuel n es:Nat}{e:TypeId}{cs:List Value}{she:List Sh}(he:E.shape n e=some she)
  (ih:∀t cs d ps sh,E.shape n t=some sh→DataW.trod enc P W base sp held fuel t cs=some (d,ps)→CR W M sh (qgv d) cs) :
  ∀(m o:Nat) (xs:List (DataW H×List MemPlace)),(o+m)*es=cs.length→xs.length=m→(∀i,i<m→DataW.trod enc P W base sp held fuel e ((cs.drop ((o+i)*es)).take es)=xs[i]?) →
   CR W M (List.replicate m she).flatten (qsB (xs.map (·.1))) (cs.drop (o*es))
 | 0,o,xs,hs,hl,_=>by
  simp at hl hs;subst hl
  have:cs.drop (o*es)=[]:=List.drop_eq_nil_of_le (by omega)
  rw[this]
  exact .nil
 | m+1,o,xs,hs,hl,hx=>by
  cases xs with
  | nil=>simp at hl
  | cons x xs=>
   have h0:=hx 0 (by omega)
   simp only[List.getElem?_cons_zero,Nat.add_zero] at h0
   have c1:=ih e _ x.1 x.2 she he h0
   have c2:=qoL (cs:=cs) he ih m (o+1) xs (by rw[←hs];congr 1;omega) (by simpa using hl) fun i hi=>by
    have:=hx (i+1) (by omega)
    rw[show o+(i+1)=o+1+i by omega] at this
    simpa using this
   have hsplit:cs.drop (o*es)=(cs.drop (o*es)).take es++cs.drop ((o+1)*es):=by
    rw[Nat.add_mul,Nat.one_mul,←List.drop_drop,List.take_append_drop]
   rw[hsplit]
   simp only[List.replicate_succ,List.flatten_cons,List.map_cons,qsB]
   exact c1.append c2
theorem qra(hE:E.tok P)(hlay:E.tt.all (fun x=>qpk x.2)=true):∀(fuel n:Nat) (t:TypeId) (cs:List Value) (d:DataW H) (ps:List MemPlace) (sh:List Sh),E.shape n t=some sh →
  DataW.trod enc P W base sp held fuel t cs=some (d,ps)→CR W (fun b=>b<W.heap.size) sh (qgv d) cs:=by
 intro fuel
 induction fuel with
 | zero=>intro n t cs d ps sh _ h;simp[DataW.trod] at h
 | succ fuel ih=>
  intro n t cs d ps sh hsh h
  cases n with
  | zero=>simp[Env.shape] at hsh
  | succ n=>
   simp only[Env.shape] at hsh
   have hl:=qvi hlay t
   unfold qpk at hl
   cases hd:(E.ty t).d<;>rw[hd] at hsh hl<;>simp only at hsh hl<;>try (cases hsh)
   ·
    unfold DataW.trod at h
    rw[qkn hE hd] at h
    split at h<;>simp_all
    obtain⟨rfl,_⟩:=h
    exact .cons (.bool (.b _)) (.bool _) .nil
   ·
    rename_i k
    unfold DataW.trod at h
    rw[qiP hE hd] at h
    split at h<;>simp_all
    obtain⟨⟨rfl,hw⟩,rfl,_⟩:=h
    simp[Lit.wf] at hw
    exact .cons (.int _ (.i _)) (.int _ _ hw.1 hw.2) .nil
   ·
    unfold DataW.trod at h
    rw[qdj hE hd] at h
    split at h<;>simp_all
    rename_i s
    obtain⟨hm,rfl,_⟩:=h
    refine .cons ?_ (.str _ (by simpa using hm)) .nil
    have:=RepU.str (w:=W) (M:=fun b=>b<W.heap.size) (.s s.data.toList)
    simpa[U.toS] using this
   ·
    rename_i e es
    obtain⟨ht,rfl⟩:=q04 hE hd
    cases he:E.shape n e with
    | none=>rw[he] at hsh;cases hsh
    | some she=>
     rw[he] at hsh
     cases hsh
     have hpos:0<P.cellsOf e:=by simpa[Nat.blt_eq] using hl
     rcases DataW.trod_slice ht h with⟨rfl,hx⟩|⟨a,len,cap,elems,rest,k,hk,rfl,hx,hb,hlc,hcm,hlen,hel,_,_⟩
     ·cases hx
      exact .cons (.slnil _ _ rfl) (.sl _ _ (by simp[maxLen]) (fun r hr=>by cases hr) (fun r j s u hr=>by cases hr)) .nil
     ·cases hx
      cases hk
      have hrow:∀(i:Nat) (hi:i<len),∃cs',W.cells? base (a.add (i*P.cellsOf e)) (P.cellsOf e)=some cs'∧CR W (fun b=>b<W.heap.size) she (qgv (elems[i]'(by omega)).1) cs':=by
       intro i hi
       have h0:=hel i hi
       rw[List.getElem?_eq_getElem (by omega)] at h0
       obtain⟨cs',g1,g2⟩:=Option.bind_eq_some_iff.1 h0
       exact⟨cs',g1,ih n e cs' _ _ she he g2⟩
      have hget:∀(r:Nat) (hr:r<len),(((elems.map (·.1)).map qgv).getD r []:List U)=qgv (elems[r]'(by omega)).1:=by
       intro r hr
       simp[List.getD_eq_getElem?_getD,hlen,hr]
      have hcell:∀(r j:Nat) (s:Sh) (hr:r<len),she[j]?=some s→∃v,W.cell? ⟨a.block,a.off+r*she.length+j,none⟩=some v∧RepU W (fun b=>b<W.heap.size) s (ve (qp0 (elems.map (·.1))) r j) v∧UFit s ((qgv (elems[r]'(by omega)).1).getD j (.i 0))∧a.spot=none∧a.block<W.heap.size:=by
       intro r j s hr hj
       obtain⟨cs',g1,g2⟩:=hrow r hr
       obtain⟨_,g4,g5⟩:=World.cells?_some g1
       obtain⟨q1,q2⟩:=g2.len
       obtain⟨u,v,e1,e2,e3,e4⟩:=g2.get j s hj
       have hlen:she.length=P.cellsOf e:=by rw[←q2,g4]
       have hjl:j<P.cellsOf e:=by rw[←hlen];exact ql hj
       have hc:=(g5 j hjl).trans e2
       have h00:=g5 0 hpos
       obtain⟨cs0,z1,z2⟩:=hrow 0 (by omega)
       obtain⟨_,z4,z5⟩:=World.cells?_some z1
       have hz:=z5 0 hpos
       obtain⟨v0,hv0⟩:∃v0,cs0[0]?=some v0:=⟨cs0[0],List.getElem?_eq_getElem (by omega)⟩
       rw[hv0] at hz
       simp only[Nat.zero_mul,Addr.add,if_true] at hz
       have hspot:=World.cell?_spot hz
       refine⟨v,?_,?_,?_,hspot,World.block_lt_of_cell? _ _ hz⟩
       ·rw[←hc,Addr.add_of hspot,Addr.add_lit,hlen]
       ·have:ve (qp0 (elems.map (·.1))) r j=u:=by
         rw[qcB]
         unfold ve
         rw[Int.toNat_natCast,hget r hr]
         simp[List.getD_eq_getElem?_getD,e1]
        rw[this];exact e3
       ·simp[List.getD_eq_getElem?_getD,e1];exact e4
      have hrl:(qp0 (elems.map (·.1))).length=len:=by rw[qcB];simp[hlen]
      have hsh0:0<len→0<she.length:=by
       intro hl0
       obtain⟨cs',g1,g2⟩:=hrow 0 hl0
       obtain⟨_,g4,_⟩:=World.cells?_some g1
       rw[←g2.len.2,g4];exact hpos
      refine .cons ?_ (.sl _ _ (by rw[hrl];omega) ?_ ?_) .nil
      ·have hR:=qai (w:=W) (M:=fun b=>b<W.heap.size) (row:=she) (l:=qp0 (elems.map (·.1))) (v:=.slice (some a) len cap) (.inr ⟨a,cap,by rw[hrl],fun h0=>by
        rw[hrl] at h0
        obtain⟨_,_,_,_,h4,_⟩:=hcell 0 0 she[0] h0 (List.getElem?_eq_getElem (hsh0 h0))
        exact h4,by rw[hrl];exact hlc,fun r j hj hr=>by
        rw[hrl] at hr
        obtain⟨v,h1,h2,_,_,h5⟩:=hcell r j she[j] hr (List.getElem?_eq_getElem hj)
        exact⟨h5,v,h1,h2⟩⟩)
       exact hR
      ·intro r hr
       rw[qcB] at hr
       obtain⟨i,hi⟩:=List.getElem?_of_mem hr
       have hil:i<len:=by have:=ql hi;simpa[hlen] using this
       have:r=qgv (elems[i]'(by omega)).1:=by
        rw[←hget i hil,List.getD_eq_getElem?_getD,hi];rfl
       obtain⟨cs',g1,g2⟩:=hrow i hil
       rw[this];exact g2.len.1
      ·intro r j s u hr hs hu
       rw[qcB] at hr
       obtain⟨i,hi⟩:=List.getElem?_of_mem hr
       have hil:i<len:=by have:=ql hi;simpa[hlen] using this
       have:r=qgv (elems[i]'(by omega)).1:=by
        rw[←hget i hil,List.getD_eq_getElem?_getD,hi];rfl
       subst this
       obtain⟨_,_,_,h3,_⟩:=hcell i j s hil hs
       simpa[List.getD_eq_getElem?_getD,hu] using h3
   ·
    rename_i m e es
    obtain⟨ht,rfl⟩:=q8v hE hd
    cases he:E.shape n e with
    | none=>rw[he] at hsh;cases hsh
    | some she=>
     rw[he] at hsh
     cases hsh
     obtain⟨xs,m0,hf,hx,hcl,hxl,hel⟩:=DataW.trod_array ht h
     cases hf
     cases hx
     have hsz:m*P.cellsOf e=cs.length:=by
      rw[hcl]
      have h1:=Nat.eq_of_beq_eq_true hl
      obtain⟨_,i,dd,h2,_,_,h4,_⟩:=kR hE (t:=t) (by rw[hd];rfl)
      rw[h1,h4]
      unfold Program.cellsOf
      rw[h2];rfl
     have:=qoL (cs:=cs) he (fun t cs d ps sh h1 h2=>ih n t cs d ps sh h1 h2) m 0 xs (by simpa using hsz) hxl (fun i hi=>by simpa using hel i hi)
     simpa[qgv] using this
   ·
    rename_i fs
    obtain⟨fields,ht,rfl⟩:=q5f hE hd
    cases hm:(fields.toList.map fun f=>(f.offset,f.type,P.cellsOf f.type)).mapM fun f=>E.shape n f.2.1 with
    | none=>rw[hm] at hsh;cases hsh
    | some shs=>
     rw[hm] at hsh
     cases hsh
     obtain⟨xs,m0,hf,hx,hcl,hxl,hel⟩:=DataW.trod_struct ht h
     cases hf
     cases hx
     simp only[Bool.and_eq_true] at hl
     have hsz:qsb (fields.toList.map fun f=>(f.offset,f.type,P.cellsOf f.type))=cs.length:=by
      rw[hcl]
      have h1:=Nat.eq_of_beq_eq_true hl.2
      obtain⟨_,i,dd,h2,_,_,h4,_⟩:=kR hE (t:=t) (by rw[hd];rfl)
      rw[h1,h4]
      unfold Program.cellsOf
      rw[h2];rfl
     have:=qls (cs:=cs) (fun t cs d ps sh h1 h2=>ih n t cs d ps sh h1 h2) _ 0 xs shs hl.1 (by simpa using hsz) hm (by simpa using hxl) (fun i f hf=>by
      rw[List.getElem?_map] at hf
      cases hfi:fields.toList[i]? with
      | none=>rw[hfi] at hf;cases hf
      | some g=>
       rw[hfi] at hf
       cases hf
       exact hel i g (by simpa using hfi))
     simpa[qgv] using this
end
end Go.Eng

namespace Go.Eng
open Go.RowKit
inductive UFits:List Sh→List U→Prop
 | nil:UFits [] []
 | cons {s:Sh} {u:U} {sh:List Sh} {us:List U} (h:UFit s u) (t:UFits sh us):UFits (s::sh) (u::us)
theorem CR.fits{W:World}{M:Nat→Prop}{a:List Sh}{b:List U}{c:List Value}(h:CR W M a b c):UFits a b:=by
 induction h with
 | nil=>exact .nil
 | cons h f t ih=>exact .cons f ih
def q6H:List Sh→List U→List AV
 | .int k::sh,u::us=>.int k u.toI::q6H sh us
 | .bool::sh,u::us=>.bool u.toB::q6H sh us
 | .str::sh,u::us=>.str u.toS::q6H sh us
 | .sl row::sh,u::us=>.imm row u.toR::q6H sh us
 | _,_=>[]
theorem qrE{X:Ctx}{sh:List Sh}{us:List U}{vs:List Value}(h:CR X.w X.M sh us vs):RepL X (q6H sh us) vs:=by
 induction h with
 | nil=>exact .nil
 | cons h f t ih=>
  rename_i s u v sh us vs
  cases s with
  | int k=>cases h;exact .cons (.int _ _) ih
  | bool=>cases h;exact .cons (.bool _) ih
  | str=>cases h;exact .cons (.str _) ih
  | sl row=>exact .cons (.imm _ _ _ (qfm h)) ih
def qrX(agg:Bool)(sh:List Sh)(us:List U):AV:=match agg with
 | true=>.agg (q6H sh us)
 | false=>(q6H sh us).headD .undef
section
variable {H:Type} {enc:TypeId×Value→H} {P:Program} {W:World} {base:Nat} {sp:Nat→Bool} {held:Bool} {E:Env}
theorem qwO(hE:E.tok P)(hlay:E.tt.all (fun x=>qpk x.2)=true){X:Ctx}(hw:X.w=W)(hM:X.M=fun b=>b<W.heap.size){r:Reach}{b0:Nat}{n:Nat}{t:TypeId}{v:Value}{d:DataW H}{ps:List MemPlace}{sh:List Sh}
  (hsh:E.shape n t=some sh) (hv:Value.okWide P W r b0 t v) (hd:DataW.Trod enc P W base sp held t v d ps):UFits sh (qgv d)∧Rep X (qrX (E.ty t).d.isAgg sh (qgv d)) v:=by
 obtain⟨fuel,hf⟩:=hd
 have hc:=qra hE hlay fuel n t _ d ps sh hsh hf
 refine⟨hc.fits,?_⟩
 have hr:RepL X (q6H sh (qgv d)) v.cells.toList:=qrE (by rw[hw,hM];exact hc)
 have hone:∀(_:(E.ty t).d.isAgg=false),v.cells=#[v]→Rep X (qrX (E.ty t).d.isAgg sh (qgv d)) v:=by
  intro ha hcell
  rw[ha]
  rw[hcell] at hr
  simp only[qrX]
  generalize q6H sh (qgv d)=l at hr
  cases hr with
  | cons h1 h2=>simpa using h1
 unfold Value.okWide at hv
 cases n with
 | zero=>simp[Env.shape] at hsh
 | succ n=>
  simp only[Env.shape] at hsh
  cases hd:(E.ty t).d<;>rw[hd] at hsh hone<;>simp only at hsh<;>try (cases hsh)
  ·rw[qkn hE hd] at hv
   refine hone rfl ?_
   cases v<;>simp[Cell.okWide,qkn hE hd,Cell.ok] at hv<;>rfl
  ·rw[qiP hE hd] at hv
   refine hone rfl ?_
   cases v<;>simp[Cell.okWide,qiP hE hd,Cell.ok] at hv<;>rfl
  ·rw[qdj hE hd] at hv
   refine hone rfl ?_
   cases v<;>simp[Cell.okWide,qdj hE hd,Cell.ok] at hv<;>rfl
  ·rw[(q04 hE hd).1] at hv
   refine hone rfl ?_
   cases v<;>simp[Cell.okWide,(q04 hE hd).1,Cell.ok] at hv<;>rfl
  ·rw[(q8v hE hd).1] at hv
   obtain⟨cs,rfl,_,_⟩:=hv
   simp only[TD.isAgg,qrX]
   exact .agg _ _ (by simpa[Value.cells] using hr)
  ·obtain⟨fields,ht,_⟩:=q5f hE hd
   rw[ht] at hv
   obtain⟨cs,rfl,_,_⟩:=hv
   simp only[TD.isAgg,qrX]
   exact .agg _ _ (by simpa[Value.cells] using hr)
end
theorem qss{H:Type}{enc:TypeId×Value→H}{P:Program}{W:World}{base:Nat}{sp:Nat→Bool}{held:Bool}{ts:List TypeId}{ds:List (DataW H)}(h:(DataW.weightsEach P ts ds).all (·≤reachBytes)=true)
  (j:Nat) {t e:TypeId} {v:Value} {d:DataW H} {ps:List MemPlace} {x:R} {b:Nat} (ht:ts[j]?=some t) (hd:ds[j]?=some d) (hu:P.underlying t=some (.slice e)) (hb:P.bytesOf e=b)
  (htr:DataW.Trod enc P W base sp held t v d ps) (hx:[.l x]=qgv d):x.length*b≤140737488351232:=by
 have he:x.length=0∨∃es spr,d=.slice es spr∧x.length=es.length:=by
  obtain⟨fuel,hf⟩:=htr
  rcases DataW.trod_slice hu hf with⟨_,hx'⟩|⟨_,_,_,elems,rest,_,_,_,hx',_⟩
  ·cases hx'
   simp only[qgv,List.cons.injEq,U.l.injEq,and_true] at hx
   rw[hx];exact .inl rfl
  ·cases hx'
   simp only[qgv,List.cons.injEq,U.l.injEq,and_true] at hx
   exact .inr ⟨_,_,rfl,by rw[hx,qcB];simp⟩
 rcases he with he|⟨es,spr,rfl,he⟩
 ·rw[he];omega
 ·have:=List.all_eq_true.1 h _ (DataW.weights_mem_each ht hd ((es.length+spr.length)*P.bytesOf e) (by simp[DataW.weights,hu]))
  have h2:(es.length+spr.length)*P.bytesOf e≤reachBytes:=by simpa using this
  rw[hb] at h2
  rw[he]
  have h3:es.length*b≤(es.length+spr.length)*b:=Nat.mul_le_mul_right _ (by omega)
  have h4:reachBytes=140737488351232:=rfl
  omega
def qsU(W:World):Ctx:={ σ:=fun _=>none,h:=[],w:=W,M:=fun b=>b<W.heap.size }
def qs6(W:World):Base:={ w0:=W,imps:=[],M0:=fun b=>b<W.heap.size,fs:=[] }
theorem qz6(W:World):HSim (qs6 W) (qsU W):=by
 have hno:∀b n,¬(qsU W).own b n:=by
  intro b n ⟨h,_⟩;cases h
 refine⟨fun b k h=>?_,fun b b' n h=>absurd h (hno b n),fun b n h=>absurd h (hno b n),fun n h=>h,fun n h=>h,fun n h=>.inl h,rfl,rfl,rfl,Nat.le_refl _,fun _ _ _=>rfl,fun b h=>?_,fun b h=>?_,fun b n h=>absurd h (hno b n),fun p hp=>by cases hp⟩
 ·have:([]:List Blk)[b]?=some k:=h
  simp at this
 ·exact absurd h (by simp[qs6])
 ·exact absurd h (by simp[qs6])
theorem qyp(W:World):Entry (qs6 W) (qsU W):=⟨rfl,rfl,fun _ h=>h⟩
theorem qtE{P:Program}{gl:List (Nat×AV)}{f:FuncId}{G:q08}(hG:zF P gl f G){W:World}(hgl:q9q gl (qsU W)){args:List AV}{vargs:List Value}(ha:RepL (qsU W) args vargs)
  (h:(G args []).run=some (.bool true,[])):Calls P f vargs.toArray W fun e W'=>e=.returned (.bool true)∧Below W.heap.size W W':=by
 refine(hG.2 (qs6 W) (qsU W) args vargs _ (qz6 W) (qyp W) hgl ha h).mono fun e W' ⟨v,X',e1,e2,e3,e4,e5,_⟩=>?_
 subst e2
 refine⟨?_,e5.os,e5.tape,e5.output,e5.size,fun k hk=>e5.frame k hk (by simp[qs6])⟩
 rw[e1]
 cases e3;rfl
theorem qs9{i:FIn}{outs:List FOut}{T:List PV→TR}{args:List AV}{ps:List PV}(ho:outs=[{ res:=.bool,h:=[] }])(hi:i.take args []=some ps)(hT:(T ps).run=some (0,[.b true])) :
  (qa i outs T args []).run=some (.bool true,[]):=by
 subst ho
 unfold qa
 rw[hi]
 simp only[Tree.run,okR,hT,Option.isSome_some]
 simp only[qxJ,FOut.kinds,AP.kinds,BP.kindsL,List.append_nil,qic,gB,pR,hT,List.getD_cons_zero,PV.toB,FOut.make,AP.make,BP.makeL,Tree.run]
theorem qwW{P:Program}{W:World}{E:Env}(hE:E.tok P)(hlay:E.tt.all (fun x=>qpk x.2)=true){name:String}{g n:Nat}{t:TypeId}{d:DataW Unit}{sh:List Sh}
  (hg:P.globalNamed name=some g) (hty:(P.globals[g]?).map (·.type)=some t) (hsh:E.shape n t=some sh) {ds:List (String×DataW Unit)} (h:laidMet P ds W) (hm:(name,d)∈ds) :
  qvg (qsU W) (g,.eptr sh [qgv d] 0 0):=by
 obtain⟨ps,hl,_⟩:=h
 have key:∀(ds:List (String×DataW Unit)) (ps:List MemPlace),DataW.LaidVars P W ds ps→(name,d)∈ds→∃cs fuel p,W.var? P name=some cs∧DataW.trod (fun _=>()) P W 0 (fun _=>true) false fuel t cs.toList=some (d,p):=by
  intro ds
  induction ds with
  | nil=>intro ps _ h;cases h
  | cons x ds ih=>
   intro ps hl hm
   obtain⟨nm,dd⟩:=x
   obtain⟨g',t',cs,fuel,p,q,h1,h2,h3,h4,h5,_⟩:=hl
   rcases List.mem_cons.1 hm with he|hm
   ·cases he
    obtain rfl:=Option.some.inj (hg.symm.trans h1)
    obtain rfl:=Option.some.inj (hty.symm.trans h2)
    exact⟨cs,fuel,p,h3,h4⟩
   ·exact ih q h5 hm
 obtain⟨cs,fuel,p,h3,h4⟩:=key ds ps hl hm
 have hc:=qra hE hlay fuel n t _ d p sh hsh h4
 have hheap:∃T fr,W.heap[g]?=some (.cells cs T fr):=by
  unfold World.var? at h3
  rw[hg] at h3
  simp only[Option.bind_some] at h3
  split at h3
  ·rename_i cs' T fr he
   cases h3
   exact⟨T,fr,he⟩
  ·cases h3
 suffices hs:Rows (qsU W).w (qsU W).M sh [qgv d] ⟨g,0,none⟩ by
  refine⟨?_,?_,?_⟩
  ·have:=Rep.eptr (X:=qsU W) sh [qgv d] 0 0 ⟨g,0,none⟩ rfl (Int.le_refl _) (by simp) hs
   simpa using this
  ·obtain⟨T,fr,he⟩:=hheap
   exact(Array.getElem?_eq_some_iff.1 he).1
  ·have:=World.var?_cell hg h3 sh.length
   show W.cell? ⟨g,sh.length*1,none⟩=none
   rw[Nat.mul_one,this,Array.getElem?_eq_none]
   rw[←Array.length_toList,hc.len.2]
   exact Nat.le_refl _
 intro r j hj hr
 have hr0:r=0:=by simpa using hr
 subst hr0
 obtain⟨u,v,e1,e2,e3,_⟩:=hc.get j sh[j] (List.getElem?_eq_getElem hj)
 have hcell:W.cell? ⟨g,j,none⟩=some v:=by
  have:=World.var?_cell hg h3 j
  rw[this];simpa using e2
 refine⟨World.block_lt_of_cell? W ⟨g,j,none⟩ hcell,v,?_,?_⟩
 ·rw[Nat.zero_mul,Nat.add_zero,Nat.zero_add];exact hcell
 have:ve [qgv d] (0:Nat) j=u:=by simp[ve,List.getD_eq_getElem?_getD,e1]
 rw[this];exact e3
theorem UFits.int{k:IntKind}{sh:List Sh}{us:List U}(h:UFits (.int k::sh) us):∃n us',us=.i n::us'∧k.min≤n∧n≤k.max∧UFits sh us':=by
 cases h with
 | cons h t=>cases h with
  | int k n h0 h1=>exact⟨n,_,rfl,h0,h1,t⟩
theorem UFits.bool{sh:List Sh}{us:List U}(h:UFits (.bool::sh) us):∃b us',us=.b b::us'∧UFits sh us':=by
 cases h with
 | cons h t=>cases h with
  | bool b=>exact⟨b,_,rfl,t⟩
theorem UFits.str{sh:List Sh}{us:List U}(h:UFits (.str::sh) us):∃s us',us=.s s::us'∧s.length≤maxLen∧UFits sh us':=by
 cases h with
 | cons h t=>cases h with
  | str s h0=>exact⟨s,_,rfl,h0,t⟩
theorem UFits.sl{row sh:List Sh}{us:List U}(h:UFits (.sl row::sh) us):∃l us',us=.l l::us'∧UFit (.sl row) (.l l)∧UFits sh us':=by
 cases h with
 | cons h t=>
  rename_i u us
  cases u with
  | l x=>exact⟨x,_,rfl,h,t⟩
  | _=>cases h
theorem UFits.none{us:List U}(h:UFits [] us):us=[]:=by cases h;rfl
end Go.Eng

namespace Go.Eng
theorem qy6{α:Type}(b:Bool)(t e:Tree α):(Tree.br b t e).run=if b=true then t.run else e.run:=by cases b<;>rfl
theorem qvt{α:Type}(a:α):(Tree.leaf a).run=some a:=rfl
theorem qvX{α:Type}:(Tree.fail:Tree α).run=none:=rfl
theorem zh{x y:Int}(h:-9223372036854775808≤x+y∧x+y≤9223372036854775807):qh .i64 x y=x+y:=by
 unfold qh IntKind.wrap
 simp[IntKind.signed,IntKind.bits];omega
theorem yl{x y:Int}(h:-9223372036854775808≤x-y∧x-y≤9223372036854775807):qz .i64 x y=x-y:=by
 unfold qz IntKind.wrap
 simp[IntKind.signed,IntKind.bits];omega
theorem q6V{x y:Int}(h:-9223372036854775808≤x*y∧x*y≤9223372036854775807):kK .i64 x y=x*y:=by
 unfold kK IntKind.wrap
 simp[IntKind.signed,IntKind.bits];omega
theorem qqn(x y:Int):(ieq x y=true)=(x=y):=by simp[ieq]
theorem qx9(x y:Int):(ine x y=true)=(x≠y):=by simp[ine]
theorem qxB(x y:Int):(ilt x y=true)=(x<y):=by simp[ilt]
theorem qwM(x y:Int):(ile x y=true)=(x≤y):=by simp[ile]
theorem qxv(x y:Bool):(Go.Eng.beq x y=true)=(x=y):=by simp[Go.Eng.beq]
theorem qyN{a b A B:Int}(h1:-A≤a)(h2:a≤A)(h3:-B≤b)(h4:b≤B):-(A*B)≤a*b∧a*b≤A*B:=by
 have e1:=Int.mul_nonneg (show 0≤A-a by omega) (show 0≤B-b by omega)
 have e2:=Int.mul_nonneg (show 0≤A+a by omega) (show 0≤B+b by omega)
 have e3:=Int.mul_nonneg (show 0≤A-a by omega) (show 0≤B+b by omega)
 have e4:=Int.mul_nonneg (show 0≤A+a by omega) (show 0≤B-b by omega)
 simp only[Int.sub_mul,Int.mul_sub,Int.add_mul,Int.mul_add] at e1 e2 e3 e4
 omega
theorem qmH{x:Int}(h:-9223372036854775807≤x∧x≤9223372036854775807):qz .i64 0 x=-x:=by
 rw[yl (by omega)];omega
theorem qno{x:Int}(h:-9223372036854775808≤x∧x≤9223372036854775807):vA .i64 x=x:=by
 unfold vA IntKind.wrap
 simp[IntKind.signed,IntKind.bits];omega
theorem qw0(b:Bool):((!b)=true)=¬(b=true):=by cases b<;>simp
theorem qwb(x y:Bool):(qsT x y=true)=(x=true∧y=true):=by simp[qsT]
theorem qxX(i n:Int):(inb i n=true)=(0≤i∧i<n):=by simp[inb]
theorem qxz(i n:Int):(q4Y i n=true)=(0≤i∧i≤n):=by simp[q4Y]
theorem STD:(∀(α:Type) (b:Bool) (t e:Tree α),(Tree.br b t e).run=if b=true then t.run else e.run)∧(∀(α:Type) (a:α),(Tree.leaf a).run=some a)∧(∀(α:Type),(Tree.fail:Tree α).run=none) ∧
  (∀R:TR,okR R=R.run.isSome)∧(∀(α:Type) (a:α),(some a).isSome=true)∧(∀(R:TR) (i:Nat),gI R i=(pR R i).toI)∧(∀(R:TR) (i:Nat),gB R i=(pR R i).toB)∧(∀(R:TR) (i:Nat),gS R i=(pR R i).toS)∧(∀(R:TR) (i:Nat),gR R i=(pR R i).toR) ∧
  (∀(R:TR) (i:Nat),pR R i=R.run.elim (.i 0) fun r=>r.2.getD i (.i 0))∧(∀(α β:Type) (b:β) (f:α→β) (a:α),(some a).elim b f=f a) ∧
  (∀(a:PV) (l:List PV) (d:PV),(a::l).getD 0 d=a)∧(∀(a:PV) (l:List PV) (d:PV) (n:Nat),(a::l).getD (n+1) d=l.getD n d) ∧
  (∀n,(PV.i n).toI=n)∧(∀b,(PV.b b).toB=b)∧(∀s,(PV.s s).toS=s)∧(∀l,(PV.r l).toR=l) ∧
  (∀(α:Type) (h:Decidable True) (a b:α),@ite α True h a b=a)∧(∀(α:Type) (h:Decidable False) (a b:α),@ite α False h a b=b)∧((false=true)=False)∧((true=false)=False)∧((true=true)=True) ∧
  (∀x y,(ieq x y=true)=(x=y))∧(∀x y,(ine x y=true)=(x≠y))∧(∀x y,(ilt x y=true)=(x<y))∧(∀x y,(ile x y=true)=(x≤y))∧(∀x y,(Go.Eng.beq x y=true)=(x=y)) ∧
  (∀x y,(qsT x y=true)=(x=true∧y=true))∧(∀b:Bool,((!b)=true)=¬(b=true))∧(∀i n,(inb i n=true)=(0≤i∧i<n))∧(∀i n,(q4Y i n=true)=(0≤i∧i≤n)) ∧
  (∀(p:Prop) (_:Decidable p),(decide p=true)=p)∧(∀(α:Type) (a b:α),(a≠b)=¬(a=b))∧(¬True)=False∧(¬False)=True:=
 ⟨fun _=>qy6,fun _=>qvt,fun _=>qvX,fun _=>rfl,fun _ _=>rfl,fun _ _=>rfl,fun _ _=>rfl,fun _ _=>rfl,fun _ _=>rfl,fun R i=>by unfold pR;cases R.run<;>rfl,fun _ _ _ _ _=>rfl,
  fun _ _ _=>rfl,fun _ _ _ _=>rfl,fun _=>rfl,fun _=>rfl,fun _=>rfl,fun _=>rfl,fun _ _ _ _=>by simp,fun _ _ _ _=>by simp,by simp,by simp,by simp,qqn,qx9,qxB,qwM,qxv,
  qwb,qw0,qxX,qxz,fun _ _=>by simp,fun _ _ _=>rfl,by simp,by simp⟩
theorem qM{R:TR}{j:Nat}{ps:List PV}(h:R.run=some (j,ps))(i:Nat):(jIs R i=true)=(j=i):=by simp[jIs,jR,h]
theorem run_bind{α β:Type}(t:Tree α)(f:α→Tree β):(t.bind f).run=t.run.bind fun a=>(f a).run:=by
 induction t with
 | leaf a=>rfl
 | br b t e iht ihe=>cases b<;>simp[Tree.bind,Tree.run,iht,ihe]
 | fail=>rfl
theorem qd2{S:List PV→TR}{n:Nat}{ps qs:List PV}(h:(S ps).run=some (0,qs)):(qgb S (n+1) ps).run=(qgb S n qs).run:=by
 simp[qgb,run_bind,h]
theorem q5h{S:List PV→TR}{n j:Nat}{ps qs:List PV}(h:(S ps).run=some (j+1,qs)):(qgb S (n+1) ps).run=some (j,qs):=by
 simp[qgb,run_bind,h,Tree.run]
def q1e{α:Type}(f:Nat→Option α):Nat→Nat→Option α
 | _,0=>none
 | i,k+1=>match f i with
  | some a=>some a
  | none=>q1e f (i+1) k
theorem qlL{S:List PV→TR}(st:Nat→List PV)(f:Nat→Option (Nat×List PV))(fin:Nat×List PV)(n:Nat)
  (h1:∀i,i<n→f i=none→(S (st i)).run=some (0,st (i+1))) (h2:∀i r,i<n→f i=some r→(S (st i)).run=some (r.1+1,r.2))
  (h3:(S (st n)).run=some (fin.1+1,fin.2)):∀(k i m:Nat),i+k=n→k<m→(qgb S m (st i)).run=some ((q1e f i k).getD fin)
 | 0,i,m,hi,hm=>by
  obtain⟨m,rfl⟩:∃m',m=m'+1:=⟨m-1,by omega⟩
  have:i=n:=by omega
  subst this
  rw[q5h h3];rfl
 | k+1,i,m,hi,hm=>by
  obtain⟨m,rfl⟩:∃m',m=m'+1:=⟨m-1,by omega⟩
  cases hf:f i with
  | none=>
   rw[qd2 (h1 i (by omega) hf),qlL st f fin n h1 h2 h3 k (i+1) m (by omega) (by omega)]
   simp[q1e,hf]
  | some r=>
   rw[q5h (h2 i r (by omega) hf)]
   simp[q1e,hf]
theorem qfQ{S:List PV→TR}(st:Nat→List PV)(f:Nat→Option (Nat×List PV))(fin:Nat×List PV)(n:Nat)(hn:n<9223372036854775808)
  (h1:∀i,i<n→f i=none→(S (st i)).run=some (0,st (i+1))) (h2:∀i r,i<n→f i=some r→(S (st i)).run=some (r.1+1,r.2))
  (h3:(S (st n)).run=some (fin.1+1,fin.2)):(qj S (st 0)).run=some ((q1e f 0 n).getD fin):=
 qlL st f fin n h1 h2 h3 n 0 qbz (by omega) (Nat.lt_trans hn (by unfold qbz;decide))
theorem yM{S:List PV→TR}(st:Nat→List PV)(fin:Nat×List PV)(n:Nat)(hn:n<9223372036854775808)
  (h1:∀i,i<n→(S (st i)).run=some (0,st (i+1))) (h3:(S (st n)).run=some (fin.1+1,fin.2)):(qj S (st 0)).run=some fin:=by
 have h:=qfQ st (fun _=>none) fin n hn (fun i hi _=>h1 i hi) (fun i r _ h=>by cases h) h3
 have e:∀k i,q1e (fun _=>(none:Option (Nat×List PV))) i k=none:=by
  intro k;induction k with
  | zero=>intro i;rfl
  | succ k ih=>intro i;simp[q1e,ih]
 rw[e] at h;exact h
theorem q16{α:Type}{f:Nat→Option α}:∀{k i:Nat},q1e f i k=none→∀j,i≤j→j<i+k→f j=none
 | 0,i,_,j,h1,h2=>by omega
 | k+1,i,h,j,h1,h2=>by
  simp only[q1e] at h
  cases hf:f i with
  | some a=>rw[hf] at h;cases h
  | none=>
   rw[hf] at h
   rcases Nat.eq_or_lt_of_le h1 with rfl|h1
   ·exact hf
   ·exact q16 h j h1 (by omega)
theorem qlQ{α:Type}{f g:Nat→Option α}:∀{k i:Nat},(∀j,i≤j→j<i+k→f j=g j)→q1e f i k=q1e g i k
 | 0,i,_=>rfl
 | k+1,i,h=>by
  simp only[q1e]
  rw[h i (by omega) (by omega),qlQ (fun j h1 h2=>h j (by omega) (by omega))]
theorem qnp{α β:Type}(g:α→β){f:Nat→Option α}:∀{k i:Nat},q1e (fun j=>(f j).map g) i k=(q1e f i k).map g
 | 0,i=>rfl
 | k+1,i=>by
  simp only[q1e]
  cases f i with
  | some a=>rfl
  | none=>exact qnp g
theorem q43{i n:Nat}(h:i<n)(hn:n<9223372036854775808):qh .i64 (i:Int) 1=((i+1:Nat):Int):=by
 rw[zh (by omega)];omega
theorem qu2{α:Type}(n:Nat):∀i,q1e (fun _=>(none:Option α)) i n=none:=by
 induction n with
 | zero=>intro i;rfl
 | succ n ih=>intro i;simp[q1e,ih]
def pick(p:Nat→Bool):Nat→R
 | 0=>[]
 | n+1=>if p n then q7Y (pick p n) [[.i (n:Int)]] else pick p n
def qjj(f:Nat→Int)(i:Nat):Option Int:=if f i=0 then none else some (f i)
theorem qtj{f:Nat→Int}{n:Nat}(h:q1e (qjj f) 0 n=none)(i:Nat)(hi:i<n):f i=0:=by
 have:=q16 h i (by omega) (by omega)
 unfold qjj at this;split at this
 ·assumption
 ·cases this
theorem qn1{f:Nat→Int}:∀{k i:Nat} {e:Int},q1e (qjj f) i k=some e→e≠0
 | 0,i,e,h=>by cases h
 | k+1,i,e,h=>by
  simp only[q1e] at h
  unfold qjj at h
  by_cases h0:f i=0
  ·rw[if_pos h0] at h;exact qn1 h
  ·rw[if_neg h0] at h;simp at h;omega
def q9K(e:Nat→Int)(n:Nat):Int:=(q1e (qjj e) 0 n).getD 0
theorem qpC{e:Nat→Int}{n:Nat}(h:q9K e n=0)(i:Nat)(hi:i<n):e i=0:=by
 unfold q9K at h
 cases hs:q1e (qjj e) 0 n with
 | none=>exact qtj hs i hi
 | some x=>rw[hs] at h;exact absurd h (qn1 hs)
theorem quM{e:Nat→Int}{n:Nat}(h:∀i,i<n→e i=0):q9K e n=0:=by
 unfold q9K
 rw[qlQ (g:=fun _=>none) (fun j _ hj=>by unfold qjj;rw[if_pos (h j (by omega))]),qu2];rfl
theorem qmE{S:List PV→TR}(st:Nat→List PV)(e:Nat→Int)(caps fin:List PV)(n:Nat)(hn:n<9223372036854775808)
  (h:∀i,i<n→(S (st i)).run=if e i=0 then some (0,st (i+1)) else some (2,.i (e i)::caps)) (h3:(S (st n)).run=some (1,fin)) :
  (qj S (st 0)).run=some (if q9K e n=0 then (0,fin) else (1,.i (q9K e n)::caps)):=by
 have key:=qfQ st (fun i=>(qjj e i).map fun x=>(1,PV.i x::caps)) (0,fin) n hn (fun i hi hf=>by
  rw[h i hi];unfold qjj at hf;split at hf
  ·rename_i h0;rw[if_pos h0]
  ·simp at hf) (fun i r hi hf=>by
  rw[h i hi];unfold qjj at hf;split at hf
  ·simp at hf
  ·rename_i h0;simp at hf;rw[if_neg h0,←hf]) h3
 rw[key,qnp]
 unfold q9K
 cases hs:q1e (qjj e) 0 n with
 | none=>simp
 | some x=>simp[qn1 hs]
theorem qbm{l:R}{i:Nat}(h:i<l.length):(i:Int)<qt l:=by unfold qt;omega
theorem qmD(l:R):¬((l.length:Int)<qt l):=by unfold qt;omega
theorem q0h(i:Nat):(0:Int)≤(i:Int):=by omega
theorem qvh(a:List U):qt [a]=1:=rfl
end Go.Eng

namespace Go.Eng
def dch(d:Nat):UInt8:=UInt8.ofNat (48+d)
def dv(c:UInt8):Nat:=c.toNat-48
def q3k(s:List UInt8):Prop:=∀c,c∈s→48≤c.toNat∧c.toNat≤57
def val(s:List UInt8):Nat:=s.foldl (fun a c=>10*a+dv c) 0
def tNf:Nat→Nat→List UInt8
 | 0,_=>[]
 | f+1,n=>if n<10 then [dch n] else tNf f (n/10)++[dch (n%10)]
def tN(n:Nat):List UInt8:=tNf (n+1) n
def tI(n:Int):List UInt8:=if n<0 then 45::tN n.natAbs else tN n.natAbs
theorem q1d{d:Nat}(h:d<10):(dch d).toNat=48+d:=by
 unfold dch;rw[UInt8.toNat_ofNat'];omega
theorem qhF{d:Nat}(h:d<10):dv (dch d)=d:=by unfold dv;rw[q1d h];omega
theorem qwx{c:UInt8}(h1:48≤c.toNat)(h2:c.toNat≤57):dch (dv c)=c:=by
 apply UInt8.toNat_inj.1
 rw[q1d (by unfold dv;omega)];unfold dv;omega
theorem qg2(s:List UInt8)(c:UInt8):val (s++[c])=10*val s+dv c:=by simp[val,List.foldl_append]
theorem qk9:∀(t:List UInt8) (a:Nat),t.foldl (fun a c=>10*a+dv c) a=a*10^t.length+val t
 | [],a=>by simp[val]
 | c::t,a=>by
  have h1:=qk9 t (10*a+dv c)
  have h2:=qk9 t (10*0+dv c)
  have h3:val (c::t)=t.foldl (fun a c=>10*a+dv c) (10*0+dv c):=rfl
  rw[h3,h2,List.foldl_cons,h1,List.length_cons,Nat.pow_succ]
  grind
theorem qmV(s t:List UInt8):val (s++t)=val s*10^t.length+val t:=by
 have h:val (s++t)=t.foldl (fun a c=>10*a+dv c) (val s):=by simp[val,List.foldl_append]
 rw[h,qk9]
theorem q3A(c:UInt8)(t:List UInt8):val (c::t)=dv c*10^t.length+val t:=by
 have:=qmV [c] t
 simpa[val] using this
theorem qak:val []=0:=rfl
theorem qpG(c:UInt8):val [c]=dv c:=by simp[val]
theorem qgn:q3k []:=fun c h=>by cases h
theorem uY{c:UInt8}{s:List UInt8}:q3k (c::s)↔(48≤c.toNat∧c.toNat≤57)∧q3k s:=by
 unfold q3k;simp
theorem q4Z{s t:List UInt8}:q3k (s++t)↔q3k s∧q3k t:=by
 unfold q3k;simp only[List.mem_append]
 exact⟨fun h=>⟨fun c hc=>h c (.inl hc),fun c hc=>h c (.inr hc)⟩,fun h c hc=>hc.elim (h.1 c) (h.2 c)⟩
theorem qsG{c:UInt8}(h:48≤c.toNat∧c.toNat≤57):dv c<10:=by unfold dv;omega
theorem q4d:∀{s:List UInt8},q3k s→val s<10^s.length
 | [],_=>by simp[val]
 | c::s,h=>by
  obtain⟨h1,h2⟩:=uY.1 h
  have ih:=q4d h2
  have hd:=qsG h1
  rw[q3A,List.length_cons,Nat.pow_succ]
  have:dv c*10^s.length≤9*10^s.length:=Nat.mul_le_mul_right _ (by omega)
  omega
theorem qmF{d:Nat}(h:d<10):q3k [dch d]:=by
 intro c hc
 simp at hc;subst hc
 rw[q1d h];omega
theorem qwB:∀(f g n:Nat),n<f→n<g→tNf f n=tNf g n
 | 0,_,n,h,_=>by omega
 | _,0,n,_,h=>by omega
 | f+1,g+1,n,h1,h2=>by
  unfold tNf
  by_cases h:n<10
  ·rw[if_pos h,if_pos h]
  ·rw[if_neg h,if_neg h,qwB f g (n/10) (by omega) (by omega)]
theorem qnY{n:Nat}(h:n<10):tN n=[dch n]:=by unfold tN tNf;rw[if_pos h]
theorem qq9{n:Nat}(h:10≤n):tN n=tN (n/10)++[dch (n%10)]:=by
 have:tN n=tNf n (n/10)++[dch (n%10)]:=by
  show tNf (n+1) n=_
  rw[tNf,if_neg (by omega)]
 rw[this,qwB n (n/10+1) (n/10) (by omega) (by omega)];rfl
theorem qlY(n:Nat):q3k (tN n)∧tN n≠[]∧val (tN n)=n:=by
 induction n using Nat.strongRecOn with
 | _ n ih=>
  by_cases h:n<10
  ·rw[qnY h];exact⟨qmF h,by simp,by rw[qpG,qhF h]⟩
  ·rw[qq9 (by omega)]
   obtain⟨h1,h2,h3⟩:=ih (n/10) (by omega)
   refine⟨q4Z.2 ⟨h1,qmF (by omega)⟩,by simp,?_⟩
   rw[qg2,h3,qhF (by omega)];omega
theorem zM(n:Nat):q3k (tN n):=(qlY n).1
theorem qjt(n:Nat):tN n≠[]:=(qlY n).2.1
theorem uO(n:Nat):val (tN n)=n:=(qlY n).2.2
theorem qdw(n:Nat):0<(tN n).length:=List.length_pos_iff.2 (qjt n)
theorem q3p:∀(k n:Nat),n<10^(k+1)→(tN n).length≤k+1
 | 0,n,h=>by rw[qnY (by simpa using h)];simp
 | k+1,n,h=>by
  by_cases h10:n<10
  ·rw[qnY h10];simp
  ·rw[qq9 (by omega),List.length_append]
   have:=q3p k (n/10) (by rw[Nat.pow_succ] at h;omega)
   simp;omega
theorem qo7:∀(k n:Nat),10^k≤n→k<(tN n).length
 | 0,n,_=>qdw n
 | k+1,n,h=>by
  have hp:0<10^k:=Nat.pow_pos (by omega)
  rw[Nat.pow_succ] at h
  rw[qq9 (by omega),List.length_append]
  have:=qo7 k (n/10) (by omega)
  simp;omega
theorem q3v{k n:Nat}(h:(tN n).length≤k):n<10^k:=by
 have:=q4d (zM n)
 rw[uO] at this
 exact Nat.lt_of_lt_of_le this (Nat.pow_le_pow_right (by omega) h)
def qz9(s:List UInt8):Prop:=s.length=1∨s.getD 0 0≠48
theorem qri{s:List UInt8}(hd:q3k s)(hn:s≠[])(h:s.getD 0 0≠48):10^(s.length-1)≤val s:=by
 cases s with
 | nil=>exact absurd rfl hn
 | cons c s=>
  obtain⟨h1,h2⟩:=uY.1 hd
  simp at h
  have hc:1≤dv c:=by
   unfold dv
   have:c.toNat≠48:=fun e=>h (UInt8.toNat_inj.1 (by simpa using e))
   omega
  rw[q3A,List.length_cons,Nat.add_sub_cancel]
  have:1*10^s.length≤dv c*10^s.length:=Nat.mul_le_mul_right _ hc
  omega
theorem qwA:∀(n:Nat) {s:List UInt8},s.length=n+1→q3k s→qz9 s→tN (val s)=s
 | 0,s,hl,hd,_=>by
  match s,hl with
  | [c],_=>
   have h1:=(uY.1 hd).1
   rw[qpG,qnY (qsG h1),qwx h1.1 h1.2]
 | n+1,s,hl,hd,hz=>by
  obtain⟨i,c,rfl⟩:∃i c,s=i++[c]:=⟨s.dropLast,s.getLast (by intro h;simp[h] at hl),(List.dropLast_concat_getLast _).symm⟩
  have hil:i.length=n+1:=by simpa using hl
  obtain⟨h1,h2⟩:=q4Z.1 hd
  have hc:=(uY.1 h2).1
  have hi:i≠[]:=by intro h;simp[h] at hil
  have hz0:i.getD 0 0≠48:=by
   rcases hz with hz|hz
   ·exact absurd (by simpa using hz) hi
   ·cases i with
    | nil=>exact absurd rfl hi
    | cons a i=>simpa using hz
  have hv:1≤val i:=Nat.le_trans (Nat.one_le_pow _ _ (by omega)) (qri h1 hi hz0)
  have hd10:=qsG hc
  rw[qg2,qq9 (n:=10*val i+dv c) (by omega),show (10*val i+dv c)/10=val i by omega,show (10*val i+dv c)%10=dv c by omega,qwx hc.1 hc.2,qwA n hil h1 (.inr hz0)]
theorem qjI{s:List UInt8}(hd:q3k s)(hn:s≠[])(hz:qz9 s):s=tN (val s):=
 (qwA (s.length-1) (by have:=List.length_pos_iff.2 hn;omega) hd hz).symm
theorem qlP{m n:Nat}(h:tN m=tN n):m=n:=by rw[←uO m,h,uO]
theorem qv3(n:Nat):qz9 (tN n):=by
 induction n using Nat.strongRecOn with
 | _ n ih=>
  by_cases h:n<10
  ·rw[qnY h];exact .inl rfl
  ·rw[qq9 (by omega)]
   right
   by_cases h2:n/10<10
   ·rw[qnY h2]
    intro e
    have:(dch (n/10)).toNat=48:=by
     have e':dch (n/10)=48:=by simpa using e
     rw[e'];rfl
    rw[q1d h2] at this;omega
   ·have h3:(tN (n/10)).length≠1:=by
     have:=qo7 1 (n/10) (by omega);omega
    rcases ih (n/10) (by omega) with h4|h4
    ·exact absurd h4 h3
    ·cases hq:tN (n/10) with
     | nil=>exact absurd hq (qjt _)
     | cons a i=>rw[hq] at h4;simpa using h4
theorem qxc(t:List UInt8):slt [] t=!t.isEmpty:=by cases t<;>rfl
theorem qv9(a b:UInt8)(s t:List UInt8):slt (a::s) (b::t)=(decide (a<b)||(a==b&&slt s t)):=by
 unfold slt
 simp only[Op.bytesLess]
theorem qpF:∀{s t:List UInt8},q3k s→q3k t→s.length=t.length→((slt s t=true)=(val s<val t))
 | [],[],_,_,_=>by simp[qxc,qak]
 | a::s,b::t,h1,h2,hl=>by
  obtain⟨ha,hs⟩:=uY.1 h1
  obtain⟨hb,ht⟩:=uY.1 h2
  have hl':s.length=t.length:=by simpa using hl
  have ih:=qpF hs ht hl'
  have v1:=q4d hs
  have v2:=q4d ht
  rw[qv9,q3A,q3A,hl']
  rw[hl'] at v1
  have hab:(a<b)=(dv a<dv b):=by
   unfold dv;rw[UInt8.lt_iff_toNat_lt];simp only[eq_iff_iff];omega
  have hab2:(a=b)=(dv a=dv b):=by
   unfold dv;rw[←UInt8.toNat_inj];simp only[eq_iff_iff];omega
  simp only[Bool.or_eq_true,decide_eq_true_eq,Bool.and_eq_true,beq_iff_eq,eq_iff_iff,ih,hab,hab2]
  generalize 10^t.length=p at *
  generalize dv a=x at *
  generalize dv b=y at *
  constructor
  ·rintro (h|⟨rfl,h⟩)
   ·have:=Nat.mul_le_mul_right p (show x+1≤y by omega)
    rw[Nat.add_mul] at this;omega
   ·omega
  ·intro h
   rcases Nat.lt_trichotomy x y with h3|h3|h3
   ·exact .inl h3
   ·subst h3;exact .inr ⟨rfl,by omega⟩
   ·have:=Nat.mul_le_mul_right p (show y+1≤x by omega)
    rw[Nat.add_mul] at this;omega
theorem q01{m n:Nat}(h:m≤n):(tN m).length≤(tN n).length:=by
 rcases Nat.lt_or_ge (tN n).length (tN m).length with h1|h1
 ·have h2:=q3v (Nat.le_refl (tN n).length)
  have h3:0<(tN n).length:=qdw n
  have:=q3p ((tN n).length-1) m (by rw[Nat.sub_add_cancel h3];omega)
  omega
 ·exact h1
theorem qqd(m n:Nat):((tN m).length<(tN n).length∨(tN m).length=(tN n).length∧slt (tN m) (tN n)=true)↔m<n:=by
 constructor
 ·rintro (h|⟨h1,h2⟩)
  ·rcases Nat.lt_or_ge m n with h3|h3
   ·exact h3
   ·have:=q01 h3;omega
  ·rw[qpF (zM m) (zM n) h1,uO,uO] at h2;exact h2
 ·intro h
  have h1:=q01 (Nat.le_of_lt h)
  rcases Nat.lt_or_ge (tN m).length (tN n).length with h3|h3
  ·exact .inl h3
  ·have h4:(tN m).length=(tN n).length:=by omega
   exact .inr ⟨h4,by rw[qpF (zM m) (zM n) h4,uO,uO];exact h⟩
theorem qrn(s:List UInt8):val (48::s)=val s:=by rw[q3A];simp[dv]
theorem qiB(n:Nat)(s:List UInt8):val (List.replicate n 48++s)=val s:=by
 induction n with
 | zero=>rfl
 | succ n ih=>rw[List.replicate_succ,List.cons_append,qrn,ih]
theorem qhj(n:Nat):q3k (List.replicate n 48):=by
 intro c hc
 rw[(List.mem_replicate.1 hc).2];decide
def rI(l:List Int):R:=l.map fun v=>[.i v]
theorem qfN(l:List Int):qt (rI l)=l.length:=by simp[qt,rI]
theorem qxi(l:List Int)(i:Int):cI (rI l) i 0=l.getD i.toNat 0:=by
 unfold cI ve rI
 simp only[List.getD_eq_getElem?_getD,List.getElem?_map]
 cases l[i.toNat]?<;>rfl
theorem qsS(x v:U):qoy [x] 0 [v]=[v]:=rfl
theorem qoS(l:List Int)(i v:Int):q9X (rI l) i 0 [.i v]=rI (l.set i.toNat v):=by
 unfold q9X rI
 apply List.ext_getElem?
 intro j
 by_cases hj:j=i.toNat
 ·subst hj
  by_cases hl:i.toNat<l.length
  ·simp[hl,List.getD_eq_getElem?_getD,qsS]
  ·rw[List.getElem?_eq_none (by simp;omega),List.getElem?_eq_none (by simp;omega)]
 ·rw[List.getElem?_set_ne (Ne.symm hj),List.getElem?_map,List.getElem?_map,List.getElem?_set_ne (Ne.symm hj)]
theorem qeD(n v:Int):q21 n [.i v]=rI (List.replicate n.toNat v):=by simp[q21,rI]
theorem qyt(l:List Int):qd4 (rI l)=l.map fun v=>UInt8.ofNat v.toNat:=by
 unfold qd4 rI
 rw[List.map_map]
 rfl
theorem qyi(l:List Int)(i:Int)(s:List UInt8):qp7 (rI l) i s=rI (l.take i.toNat++s.map (fun c=>(c.toNat:Int))++l.drop (i.toNat+s.length)):=by
 unfold qp7 rI
 simp[List.map_take,List.map_drop]
theorem qh5(s:List UInt8):qd4 (rI (s.map fun c=>(c.toNat:Int)))=s:=by
 rw[qyt,List.map_map]
 have:((fun v:Int=>UInt8.ofNat v.toNat)∘fun c:UInt8=>(c.toNat:Int))=id:=by
  funext c;simp
 rw[this,List.map_id]
theorem qep{s:List UInt8}{i:Nat}(h:i<s.length):sat s (i:Int)=(s[i].toNat:Int):=by
 unfold sat
 simp[List.getD_eq_getElem?_getD,h]
theorem zd(s t:List UInt8):(seq s t=true)=(s=t):=by simp[seq]
theorem qx6{x:Int}(h:48≤x∧x≤255):qz .u8 x 48=x-48:=by
 unfold qz IntKind.wrap
 simp[IntKind.signed,IntKind.bits];omega
theorem qlq{x:Int}(h:0≤x∧x≤255):vA .u8 x=x:=by
 unfold vA IntKind.wrap
 simp[IntKind.signed,IntKind.bits];omega
theorem qij(a b:Nat):q4g (a:Int) (b:Int)=((a%b:Nat):Int):=by
 unfold q4g;rw[Int.tmod_eq_emod_of_nonneg (by omega)];rfl
theorem qr5{a b:Nat}(h:a<9223372036854775808):jP .i64 (a:Int) (b:Int)=((a/b:Nat):Int):=by
 unfold jP
 rw[Int.tdiv_eq_ediv_of_nonneg (by omega)]
 have:(a:Int)/(b:Int)=((a/b:Nat):Int):=rfl
 have h2:a/b≤a:=Nat.div_le_self a b
 rw[this]
 generalize a/b=q at *
 unfold IntKind.wrap
 simp[IntKind.signed,IntKind.bits];omega
theorem vV{S:List PV→TR}(I:Nat→List PV→Prop)(Q:Nat→List PV→Prop){n:Nat}(hn:n<9223372036854775808)
  (h:∀k ps,k≤n→I k ps→(∃k' qs,k'<k∧(S ps).run=some (0,qs)∧I k' qs)∨∃j qs,(S ps).run=some (j+1,qs)∧Q j qs) {ps:List PV} (h0:I n ps):∃j qs,(qj S ps).run=some (j,qs)∧Q j qs:=by
 have key:∀m k ps,k≤n→k<m→I k ps→∃j qs,(qgb S m ps).run=some (j,qs)∧Q j qs:=by
  intro m
  induction m with
  | zero=>intro k ps _ h;omega
  | succ m ih=>
   intro k ps hk hm hI
   rcases h k ps hk hI with⟨k',qs,h1,h2,h3⟩|⟨j,qs,h1,h2⟩
   ·obtain⟨j,rs,g1,g2⟩:=ih k' qs (by omega) (by omega) h3
    exact⟨j,rs,by rw[qd2 h2];exact g1,g2⟩
   ·exact⟨j,qs,q5h h1,h2⟩
 exact key qbz n ps (Nat.le_refl _) (Nat.lt_trans hn (by unfold qbz;decide)) h0
end Go.Eng

namespace Go.Eng
theorem q8m{m:Int}(h:m<0):tI m=45::tN m.natAbs:=by unfold tI;rw[if_pos h]
theorem qec{m:Int}(h:¬m<0):tI m=tN m.natAbs:=by unfold tI;rw[if_neg h]
theorem q1W(n:Nat):tI (n:Int)=tN n:=by rw[qec (by omega)];rfl
theorem qq3:tN 0=[48]:=rfl
theorem qcF{s:List UInt8}(hd:q3k s)(hn:s≠[]):∃c t,s=c::t∧48≤c.toNat∧c.toNat≤57:=by
 cases s with
 | nil=>exact absurd rfl hn
 | cons c t=>exact⟨c,t,rfl,(uY.1 hd).1⟩
theorem qrp(m:Int):(tI m).length≤(tN m.natAbs).length+1:=by unfold tI;split<;>simp
theorem qiz(m:Int):0<(tI m).length:=by
 have:=qdw m.natAbs
 unfold tI;split<;>simp<;>omega
theorem qnF{m n:Int}(h:tI m=tI n):m=n:=by
 have key:∀{m n:Int},m<0→¬n<0→tI m≠tI n:=by
  intro m n h1 h2 e
  rw[q8m h1,qec h2] at e
  obtain⟨c,t,hc,h3,h4⟩:=qcF (zM n.natAbs) (qjt _)
  rw[hc] at e
  have:=(List.cons.inj e).1
  rw[←this] at h3
  exact absurd h3 (by decide)
 by_cases h1:m<0<;>by_cases h2:n<0
 ·rw[q8m h1,q8m h2] at h
  have:=qlP (List.cons.inj h).2
  omega
 ·exact absurd h (key h1 h2)
 ·exact absurd h.symm (key h2 h1)
 ·rw[qec h1,qec h2] at h
  have:=qlP h
  omega
theorem qqO(m:Int):(sat (tI m) 0=45)=(m<0):=by
 by_cases h:m<0
 ·rw[q8m h];simp[sat,h]
 ·rw[qec h]
  obtain⟨c,t,hc,h3,h4⟩:=qcF (zM m.natAbs) (qjt _)
  rw[hc]
  simp[sat,h];omega
theorem wc(m:Int):(qu [.s (tI m)]).run=some (0,[.s (tN m.natAbs)]):=by
 rw[qfo]
 have hp:=qiz m
 have hne:¬tI m=[]:=fun h=>by rw[h] at hp;simp at hp
 have h1:(0:Int)<qm (tI m):=by unfold qm;omega
 have h2:(1:Int)≤qm (tI m):=by omega
 simp only[STD,zd,hne,h1,h2,qqO,Int.le_refl,show (0:Int)≤qm (tI m) by omega,and_self,show (0:Int)≤1 by omega]
 by_cases h:m<0
 ·rw[if_pos h,q8m h];simp[q8i,qm]
 ·rw[if_neg h,qec h]
theorem j2(m:Int):(qI [.s (tI m)]).run=some (0,[.b (decide (m<0))]):=by
 rw[qkJ]
 have hp:=qiz m
 have h1:(0:Int)<qm (tI m):=by unfold qm;omega
 have h2:ieq (sat (tI m) 0) 45=decide (m<0):=by
  have:=qqO m
  by_cases h:m<0<;>simp[ieq,h] at this ⊢<;>exact this
 simp only[STD,h1,h2,Int.le_refl,and_self]
theorem ua(n:Nat)(b:Bool)(hl:(tN n).length≤100000000):(qJ [.s (tN n),.b b]).run=some (0,[.s (tI (if b then -(n:Int) else n))]):=by
 rw[qj5]
 have h1:qm [45]+qm (tN n)≤140737488355328:=by show (1:Int)+((tN n).length:Int)≤_;omega
 have h0:(tN n=[48])=(n=0):=by
  rw[←qq3];exact propext ⟨fun h=>qlP h,fun h=>by rw[h]⟩
 simp only[STD,zd,h1,h0]
 cases b with
 | false=>simp[q1W]
 | true=>
  by_cases hn:n=0
  ·subst hn;simp[tI,qq3]
  ·have:(-(n:Int))<0:=by omega
   simp[hn,q8m this,qeL]
theorem qdy(m:Int)(hl:(tN m.natAbs).length≤100000000):(wE [.s (tI m)]).run=some (0,[.s (tI (-m))]):=by
 rw[qiC]
 simp only[STD,wc,j2,ua _ _ hl]
 have e:(if ¬m<0 then -(m.natAbs:Int) else (m.natAbs:Int))=-m:=by
  by_cases h:m<0
  ·rw[if_neg (by simp[h])];omega
  ·rw[if_pos (by simp[h])];omega
 rw[e]
theorem q6s{s:List UInt8}{i:Nat}(h:i<s.length):val (s.take (i+1))=10*val (s.take i)+dv s[i]:=by
 rw[List.take_add_one,List.getElem?_eq_getElem h,Option.toList_some,qg2]
theorem qoD{s:List UInt8}(h:q3k s)(i:Nat):q3k (s.take i):=fun c hc=>h c (List.mem_of_mem_take hc)
theorem qtT{s:List UInt8}(h:q3k s)(i:Nat):q3k (s.drop i):=fun c hc=>h c (List.mem_of_mem_drop hc)
theorem qcI{s:List UInt8}(h:q3k s){i:Nat}(hi:i<s.length):48≤s[i].toNat∧s[i].toNat≤57:=h _ (List.getElem_mem hi)
theorem qpV{s:List UInt8}(h:q3k s){i:Nat}(hi:i<s.length):vA .i64 (qz .u8 (sat s (i:Int)) 48)=(dv s[i]:Int)∧dv s[i]<10:=by
 have hd:=qcI h hi
 rw[qep hi,qx6 (by omega),qno (by omega)]
 unfold dv;omega
theorem qdp(m:Int)(hl:(tN m.natAbs).length≤18):(jV [.s (tI m)]).run=some (0,[.i m]):=by
 rw[qjM]
 have hd:=zM m.natAbs
 have k:=yM (S:=yE) (fun i=>[.s (tI m),.i (val ((tN m.natAbs).take i):Int),.s (tN m.natAbs),.i (i:Int)]) (0,[.s (tI m),.i (m.natAbs:Int)]) (tN m.natAbs).length (by omega) (fun i hi=>by
  rw[q9l]
  obtain⟨e1,e2⟩:=qpV hd hi
  have hv:=q4d (qoD hd i)
  have hv2:10^((tN m.natAbs).take i).length≤100000000000000000:=Nat.le_trans (Nat.pow_le_pow_right (n:=10) (by omega) (show _≤17 by rw[List.length_take];omega)) (by decide)
  have hv3:=Nat.lt_of_lt_of_le hv hv2
  clear hv hv2
  have hlt:(i:Int)<qm (tN m.natAbs):=by unfold qm;omega
  have e3:qh .i64 (kK .i64 10 (val ((tN m.natAbs).take i):Int)) (dv (tN m.natAbs)[i]:Int)=((10*val ((tN m.natAbs).take i)+dv (tN m.natAbs)[i]:Nat):Int):=by
   rw[q6V (by omega),zh (by omega)];omega
  simp only[STD,hlt,q0h,and_self,e1,q43 hi (by omega),q6s hi,e3]) (by
  rw[q9l]
  have:¬((tN m.natAbs).length:Int)<qm (tN m.natAbs):=by unfold qm;omega
  simp only[STD,this,List.take_length,uO])
 have k':(qj yE [.s (tI m),.i 0,.s (tN m.natAbs),.i 0]).run=_:=k
 have hm:m.natAbs<1000000000000000000:=Nat.lt_of_lt_of_le (q3v hl) (by decide)
 have hneg:m<0→qz .i64 0 (m.natAbs:Int)=m:=fun h=>by rw[qmH (by omega)];omega
 have hpos:¬m<0→(m.natAbs:Int)=m:=fun h=>by omega
 clear hm k hd
 simp only[STD,wc,k',j2]
 by_cases h:m<0
 ·rw[if_pos h,hneg h]
 ·rw[if_neg h,hpos h]
theorem q48(m n:Int):(zU [.s (tI m),.s (tI n)]).run=some (0,if (tN m.natAbs).length≤18∧(tN n.natAbs).length≤18 then [.i m,.i n,.b true] else [.i 0,.i 0,.b false]):=by
 rw[qkP]
 have e:∀t:List UInt8,(18<qm t)=¬(t.length≤18):=fun t=>by unfold qm;simp only[eq_iff_iff];omega
 by_cases h1:(tN m.natAbs).length≤18
 ·by_cases h2:(tN n.natAbs).length≤18
  ·simp only[STD,wc,e,h1,h2,qdp m h1,qdp n h2,and_self]
  ·simp only[STD,wc,e,h1,h2,and_false]
 ·simp only[STD,wc,e,h1,false_and]
theorem qme{d:Int}(h0:0≤d)(h:d<10):qd4 [[.i (vA .u8 (qh .i64 48 d))]]=[dch d.toNat]:=by
 rw[zh (by omega),qlq (by omega)]
 show [UInt8.ofNat (48+d).toNat]=[UInt8.ofNat (48+d.toNat)]
 rw[show (48+d).toNat=48+d.toNat by omega]
theorem qu3{S:List PV→TR}(hS:∀(y0:Int) (y1:List UInt8),S [.i y0,.s y1]=(.br (ilt 9 y0) (.br (ile ((qm (qd4 [[(.i (vA .u8 (qh .i64 48 (q4g y0 10))))]]))+(qm y1)) 140737488355328) (.leaf (0,[(.i (jP .i64 y0 10)),(.s (qeL (qd4 [[(.i (vA .u8 (qh .i64 48 (q4g y0 10))))]]) y1))])) .fail) (.leaf (1,[(.i y0),(.s y1)]))))
  (n:Nat) (hn:n<9223372036854775808):∃(a:Nat) (r:List UInt8),(qj S [.i (n:Int),.s []]).run=some (0,[.i (a:Int),.s r])∧a<10∧tN n=tN a++r:=by
 have hlen:(tN n).length≤19:=q3p 18 n (by omega)
 obtain⟨j,qs,h1,h2⟩:=vV (S:=S) (fun k ps=>∃(r:List UInt8),ps=[.i (k:Int),.s r]∧tN n=tN k++r) (fun j qs=>∃(a:Nat) (r:List UInt8),j=0∧qs=[.i (a:Int),.s r]∧a<10∧tN n=tN a++r) hn (fun k ps hk ⟨r,hps,ht⟩=>by
  subst hps
  by_cases h9:k<10
  ·right
   have:¬(9:Int)<(k:Int):=by omega
   exact⟨0,_,by rw[hS];simp only[STD,this],k,r,rfl,rfl,h9,ht⟩
  ·left
   have h9':(9:Int)<(k:Int):=by omega
   have hr:q4g (k:Int) 10=((k%10:Nat):Int):=qij k 10
   have hq:jP .i64 (k:Int) 10=((k/10:Nat):Int):=qr5 (b:=10) (by omega)
   have hd:qd4 [[(.i (vA .u8 (qh .i64 48 (q4g (k:Int) 10))))]]=[dch (k%10)]:=by
    rw[hr,qme (by omega) (by omega)];rfl
   have hrl:r.length≤19:=by
    have:=congrArg List.length ht
    rw[List.length_append] at this;omega
   have hle:qm [dch (k%10)]+qm r≤140737488355328:=by
    show (1:Int)+(r.length:Int)≤_;omega
   refine⟨k/10,[.i ((k/10:Nat):Int),.s ([dch (k%10)]++r)],by omega,?_,_,rfl,?_⟩
   ·rw[hS];simp only[STD,h9',hd,hq,hle];rfl
   ·rw[ht,qq9 (by omega),List.append_assoc]) (ps:=[.i (n:Int),.s []]) ⟨[],rfl,by simp⟩
 obtain⟨a,r,rfl,rfl,h3,h4⟩:=h2
 exact⟨a,r,h1,h3,h4⟩
theorem qt8{a:Nat}{r:List UInt8}(ha:a<10):qeL (qd4 [[(.i (vA .u8 (qh .i64 48 (a:Int))))]]) r=tN a++r:=by
 rw[qme (by omega) (by omega),qnY ha];rfl
theorem of_le{a:Nat}{r:List UInt8}(ha:a<10)(hr:r.length≤1000):qm (qd4 [[(.i (vA .u8 (qh .i64 48 (a:Int))))]])+qm r≤140737488355328:=by
 rw[qme (by omega) (by omega)]
 show (1:Int)+(r.length:Int)≤_;omega
theorem qwg{x:Int}(h1:-9223372036854775808<x)(h2:x≤9223372036854775807):qz .i64 0 x=-x:=qmH (by omega)
theorem qxU(n:Nat)(hn:n<9223372036854775808):(q33 [.i (n:Int)]).run=some (0,[.s (tN n)])∧(zO [.i (n:Int)]).run=some (0,[.s (tN n)]):=by
 obtain⟨a,r,h1,h2,h3⟩:=qu3 qkI n hn
 obtain⟨a',r',h1',h2',h3'⟩:=qu3 qng n hn
 have hlen:(tN n).length≤19:=q3p 18 n (by omega)
 have hr:r.length≤1000:=by have:=congrArg List.length h3;rw[List.length_append] at this;omega
 have hr':r'.length≤1000:=by have:=congrArg List.length h3';rw[List.length_append] at this;omega
 have hneg:qz .i64 0 (n:Int)=-(n:Int):=qwg (by omega) (by omega)
 have h0:((n:Int)=-(n:Int))=(n=0):=by simp only[eq_iff_iff];omega
 have hlt:¬(n:Int)<0:=by omega
 have hz:((n:Int)=0)=(n=0):=by simp only[eq_iff_iff];omega
 constructor
 ·rw[qnB]
  simp only[STD,hneg,h0,hz,hlt,h1,qt8 h2,of_le h2 hr,←h3]
  by_cases h:n=0<;>simp[h]
 ·rw[qjf]
  simp only[STD,hneg,h0,hz,hlt,h1',qt8 h2',of_le h2' hr',←h3']
  by_cases h:n=0<;>simp[h]
theorem q1D(n:Int)(h1:-9223372036854775808<n)(h2:n≤9223372036854775807):(zO [.i n]).run=some (0,[.s (tI n)]):=by
 by_cases h:n<0
 ·obtain⟨a,ha⟩:∃a:Nat,n=-(a:Int):=⟨n.natAbs,by omega⟩
  subst ha
  have hneg:qz .i64 0 (-(a:Int))=(a:Int):=by rw[qwg (by omega) (by omega)];omega
  have hlen:(tN a).length≤19:=q3p 18 a (by omega)
  have ht:=qdy (a:Int) (by simp;omega)
  rw[q1W] at ht
  rw[qjf]
  have e1:¬(-(a:Int)=(a:Int)):=by omega
  simp only[STD,hneg,h,e1,(qxU a (by omega)).1,ht]
 ·obtain⟨a,rfl⟩:∃a:Nat,n=(a:Int):=⟨n.toNat,by omega⟩
  rw[(qxU a (by omega)).2,q1W]
theorem qbP(m n:Nat):(u9 [.s (tN m),.s (tN n)]).run=some (0,[.b (decide (m<n))]):=by
 rw[qm0]
 have h:=qqd m n
 have e1:(qm (tN m)<qm (tN n))=((tN m).length<(tN n).length):=by unfold qm;simp only[eq_iff_iff];omega
 have e2:(qm (tN m)=qm (tN n))=((tN m).length=(tN n).length):=by unfold qm;simp only[eq_iff_iff];omega
 simp only[STD,e1,e2]
 by_cases h1:(tN m).length<(tN n).length
 ·have:m<n:=h.1 (.inl h1)
  simp[h1,this]
 ·by_cases h2:(tN m).length=(tN n).length
  ·cases hs:slt (tN m) (tN n) with
   | true=>simp[h2,h.1 (.inr ⟨h2,hs⟩)]
   | false=>
    have:¬m<n:=fun hh=>by rcases h.2 hh with h3|⟨_,h3⟩<;>simp_all
    simp[h2,this]
  ·have:¬m<n:=fun hh=>by rcases h.2 hh with h3|⟨h3,_⟩<;>omega
   simp[h1,h2,this]
end Go.Eng

namespace Go.Eng
theorem qhD(s:List UInt8)(n:Nat)(h0:0<n)(hn:n≤1000000000)(hl:s.length≤n):(q13 [.s s,.i (n:Int)]).run=some (0,[.s (List.replicate (n-s.length) 48++s)]):=by
 rw[qnc]
 have k:=yM (S:=q0v) (fun i=>[.s s,.i (n:Int),.i (i:Int),.r (rI (List.replicate i 48++List.replicate (n-i) 0))]) (0,[.s s,.i (n:Int),.r (rI (List.replicate n 48))]) n (by omega) (fun i hi=>by
  rw[qbZ]
  have h1:(i:Int)<(n:Int):=by omega
  have h2:(i:Int)<qt (rI (List.replicate i 48++List.replicate (n-i) 0)):=by rw[qfN];simp;omega
  have h3:(List.replicate i (48:Int)++List.replicate (n-i) 0).set (i:Int).toNat 48=List.replicate (i+1) 48++List.replicate (n-(i+1)) 0:=by
   rw[Int.toNat_natCast,List.set_append_right _ _ (by simp),List.length_replicate,Nat.sub_self]
   rw[show n-i=(n-(i+1))+1 by omega,List.replicate_succ,List.set_cons_zero,List.replicate_succ']
   simp
  simp only[STD,h1,h2,q0h,and_self,q43 hi (by omega),qoS,h3]) (by
  rw[qbZ]
  simp only[STD,Int.lt_irrefl,Nat.sub_self,List.replicate_zero,List.append_nil])
 have k':(qj q0v [.s s,.i (n:Int),.i 0,.r (rI (List.replicate n 0))]).run=some (0,[.s s,.i (n:Int),.r (rI (List.replicate n 48))]):=by simpa using k
 have e1:qz .i64 (n:Int) (qm s)=((n-s.length:Nat):Int):=by
  rw[yl (by unfold qm;omega)];unfold qm;omega
 have e2:(0:Int)≤(n:Int):=by omega
 have e3:(n:Int)≤140737488355328:=by omega
 have e4:(0:Int)<qt (rI (List.replicate n 48)):=by rw[qfN,List.length_replicate];omega
 have e5:((n-s.length:Nat):Int)≤qt (rI (List.replicate n 48)):=by rw[qfN,List.length_replicate];omega
 have e6:qm s≤qpY (qt (rI (List.replicate n 48))) ((n-s.length:Nat):Int):=by rw[qfN,List.length_replicate];unfold qpY qm;omega
 have e7:qd4 (rI (List.take ((n-s.length:Nat):Int).toNat (List.replicate n 48)++s.map (fun c=>(c.toNat:Int))++List.drop (((n-s.length:Nat):Int).toNat+s.length) (List.replicate n 48)))=List.replicate (n-s.length) 48++s:=by
  rw[Int.toNat_natCast,List.take_replicate,List.drop_replicate,Nat.min_eq_left (by omega),show n-(n-s.length+s.length)=0 by omega,List.replicate_zero,List.append_nil]
  have:List.replicate (n-s.length) (48:Int)=(List.replicate (n-s.length) (48:UInt8)).map fun c=>(c.toNat:Int):=by rw[List.map_replicate];rfl
  rw[this,←List.map_append,qh5]
 simp only[STD,qeD,Int.toNat_natCast,e2,e3,and_self,k',e4,e5,e1,q0h,e6,qyi]
 rw[Int.toNat_natCast] at e7
 rw[e7]
theorem q8k{s:List UInt8}(hd:q3k s)(hn:s≠[])(hl:s.length≤1000000000):(zB [.s s]).run=some (0,[.s (tN (val s))]):=by
 rw[qmI]
 obtain⟨j,qs,h1,h2⟩:=vV (S:=q2A) (fun k ps=>∃t:List UInt8,ps=[.s t]∧t.length=k∧q3k t∧t≠[]∧val t=val s) (fun j qs=>j=0∧qs=[.s (tN (val s))]) (n:=s.length) (by omega) (fun k ps hk ⟨t,hps,hlk,hdt,hnt,hv⟩=>by
  subst hps
  have hp:0<t.length:=List.length_pos_iff.2 hnt
  have hs0:(0:Int)<qm t:=by unfold qm;omega
  rw[qk2]
  by_cases h1:1<t.length
  ·have hs1:(1:Int)<qm t:=by unfold qm;omega
   obtain⟨c,u,rfl⟩:∃c u,t=c::u:=by
    cases t with
    | nil=>exact absurd rfl hnt
    | cons c u=>exact⟨c,u,rfl⟩
   have hsat:sat (c::u) 0=(c.toNat:Int):=by simp[sat]
   by_cases h48:c=48
   ·left
    subst h48
    have hu:u≠[]:=by intro h;subst h;simp at h1
    refine⟨u.length,[.s u],by simp at hlk;omega,?_,u,rfl,rfl,(uY.1 hdt).2,hu,by rw[←hv,qrn]⟩
    have hsub:q8i (48::u) 1 (qm (48::u))=u:=by simp[q8i,qm]
    have h48':(((48:UInt8).toNat:Nat):Int)=48:=rfl
    simp only[STD,hs1,hs0,hsat,h48',Int.le_refl,and_self,Int.le_of_lt hs1,Int.le_of_lt hs0,show (0:Int)≤1 by omega,hsub]
   ·right
    have hne:¬((c.toNat:Int)=48):=fun h=>h48 (UInt8.toNat_inj.1 (by show c.toNat=48;omega))
    refine⟨0,[.s (c::u)],?_,rfl,?_⟩
    ·simp only[STD,hs1,hs0,hsat,hne,Int.le_refl,and_self]
    ·rw[←hv,←qjI hdt hnt (.inr (by simpa using h48))]
  ·right
   have hs1:¬(1:Int)<qm t:=by unfold qm;omega
   refine⟨0,[.s t],?_,rfl,?_⟩
   ·simp only[STD,hs1]
   ·rw[←hv,←qjI hdt hnt (.inl (by omega))]) (ps:=[.s s]) ⟨s,rfl,rfl,hd,hn,rfl⟩
 obtain⟨rfl,rfl⟩:=h2
 simp only[STD,h1]
theorem qvM{x y:UInt8}(hx:48≤x.toNat∧x.toNat≤57)(hy:48≤y.toNat∧y.toNat≤57)(c:Nat)(hc:c≤1)(add:Bool) :
  ∃(d:UInt8) (c':Nat),(48≤d.toNat∧d.toNat≤57)∧c'≤1∧(q0y [.i x.toNat,.i y.toNat,.i (c:Int),.b add]).run=some (0,[.i d.toNat,.i (c':Int)]) ∧
   (if add then dv x+dv y+c=dv d+10*c' else dv x+10*c'=dv y+c+dv d):=by
 have ex:vA .i64 (qz .u8 (x.toNat:Int) 48)=(dv x:Int):=by rw[qx6 (by omega),qno (by omega)];unfold dv;omega
 have ey:vA .i64 (qz .u8 (y.toNat:Int) 48)=(dv y:Int):=by rw[qx6 (by omega),qno (by omega)];unfold dv;omega
 have lx:=qsG hx
 have ly:=qsG hy
 have mk:∀v:Nat,v<10→((dch v).toNat:Int)=48+v:=fun v hv=>by rw[q1d hv];omega
 rw[qjT]
 simp only[STD,ex,ey]
 cases add with
 | true=>
  simp only[STD]
  have e1:qh .i64 (qh .i64 (dv x:Int) (dv y:Int)) (c:Int)=((dv x+dv y+c:Nat):Int):=by rw[zh (x:=(dv x:Int)) (by omega),zh (by omega)];omega
  rw[e1]
  by_cases h9:9<dv x+dv y+c
  ·have h9':(9:Int)<((dv x+dv y+c:Nat):Int):=by omega
   refine⟨dch (dv x+dv y+c-10),1,by rw[q1d (by omega)];omega,by omega,?_,by rw[qhF (by omega)];omega⟩
   rw[if_pos h9',zh (by omega),yl (by omega),qlq (by omega),mk _ (by omega)]
   rw[show (48:Int)+((dv x+dv y+c:Nat):Int)-10=48+((dv x+dv y+c-10:Nat):Int) by omega];rfl
  ·have h9':¬(9:Int)<((dv x+dv y+c:Nat):Int):=by omega
   have h0:¬((dv x+dv y+c:Nat):Int)<0:=by omega
   refine⟨dch (dv x+dv y+c),0,by rw[q1d (by omega)];omega,by omega,?_,by rw[qhF (by omega)];omega⟩
   rw[if_neg h9',if_neg h0,zh (by omega),qlq (by omega),mk _ (by omega)];rfl
 | false=>
  simp only[STD]
  have e1:qz .i64 (qz .i64 (dv x:Int) (dv y:Int)) (c:Int)=(dv x:Int)-dv y-c:=by rw[yl (x:=(dv x:Int)) (by omega),yl (by omega)]
  rw[e1]
  have h9':¬(9:Int)<(dv x:Int)-dv y-c:=by omega
  rw[if_neg h9']
  by_cases h0:(dv x:Int)-dv y-c<0
  ·refine⟨dch (dv x+10-dv y-c),1,by rw[q1d (by omega)];omega,by omega,?_,?_⟩
   ·rw[if_pos h0,zh (x:=48) (by omega),zh (by omega),qlq (by omega),mk _ (by omega)]
    rw[show (48:Int)+((dv x:Int)-dv y-c)+10=48+((dv x+10-dv y-c:Nat):Int) by omega];rfl
   ·rw[qhF (by omega)];omega
  ·refine⟨dch (dv x-dv y-c),0,by rw[q1d (by omega)];omega,by omega,?_,?_⟩
   ·rw[if_neg h0,zh (by omega),qlq (by omega),mk _ (by omega)]
    rw[show (48:Int)+((dv x:Int)-dv y-c)=48+((dv x-dv y-c:Nat):Int) by omega];rfl
   ·rw[qhF (by omega)];omega
theorem quH{s:List UInt8}{k:Nat}(h:k<s.length):s.drop k=s[k]::s.drop (k+1):=(List.drop_eq_getElem_cons h)
theorem qrb{s:List UInt8}{k:Nat}(h:k<s.length):val (s.drop k)=dv s[k]*10^(s.length-(k+1))+val (s.drop (k+1)):=by
 rw[quH h,q3A,List.length_drop]
theorem qox{a b:List UInt8}{n:Nat}(ha:q3k a)(hb:q3k b)(hla:a.length=n)(hlb:b.length=n)(hn:n≤100000001)(add:Bool) :
  ∃(t:List UInt8) (c:Nat),(qj kG [.s a,.s b,.b add,.i 0,.i ((n:Int)-1),.r (rI (List.replicate n 0))]).run=some (0,[.r (rI (t.map fun c=>(c.toNat:Int)))])∧q3k t∧t.length=n ∧
   (if add then val a+val b=val t+c*10^n else val a+c*10^n=val b+val t):=by
 obtain⟨j,qs,h1,h2⟩:=vV (S:=kG) (fun k ps=>∃(t:List UInt8) (c:Nat),ps=[.s a,.s b,.b add,.i (c:Int),.i ((k:Int)-1),.r (rI (List.replicate k 0++t.map fun c=>(c.toNat:Int)))]∧c≤1∧q3k t∧k+t.length=n ∧
   (if add then val (a.drop k)+val (b.drop k)=val t+c*10^(n-k) else val (a.drop k)+c*10^(n-k)=val (b.drop k)+val t))
  (fun j qs=>j=0∧∃(t:List UInt8) (c:Nat),qs=[.r (rI (t.map fun c=>(c.toNat:Int)))]∧q3k t∧t.length=n∧(if add then val a+val b=val t+c*10^n else val a+c*10^n=val b+val t)) (n:=n) (by omega) (fun k ps hk ⟨t,c,hps,hc,hdt,hlt,hrel⟩=>by
  subst hps
  rw[qi6]
  cases k with
  | zero=>
   right
   have:¬(0:Int)≤((0:Nat):Int)-1:=by omega
   refine⟨0,[.r (rI (t.map fun c=>(c.toNat:Int)))],?_,rfl,t,c,rfl,hdt,by omega,by simpa using hrel⟩
   simp only[STD,this,List.replicate_zero,List.nil_append]
  | succ k=>
   left
   have e0:((k+1:Nat):Int)-1=(k:Int):=by omega
   rw[e0]
   have hka:k<a.length:=by omega
   have hkb:k<b.length:=by omega
   obtain⟨d,c',hd,hc',hrun,hcol⟩:=qvM (qcI ha hka) (qcI hb hkb) c hc add
   have h3:(k:Int)<qm a:=by unfold qm;omega
   have h4:(k:Int)<qm b:=by unfold qm;omega
   have h5:(k:Int)<qt (rI (List.replicate (k+1) 0++t.map fun c=>(c.toNat:Int))):=by rw[qfN];simp;omega
   have h6:(List.replicate (k+1) (0:Int)++t.map fun c=>(c.toNat:Int)).set (k:Int).toNat (d.toNat:Int)=List.replicate k 0++(d::t).map fun c=>(c.toNat:Int):=by
    rw[Int.toNat_natCast,List.replicate_succ',List.append_assoc,List.set_append_right _ _ (by simp),List.length_replicate,Nat.sub_self];rfl
   have h7:qz .i64 (k:Int) 1=(k:Int)-1:=yl (by omega)
   refine⟨k,[.s a,.s b,.b add,.i (c':Int),.i ((k:Int)-1),.r (rI (List.replicate k 0++(d::t).map fun c=>(c.toNat:Int)))],by omega,?_,d::t,c',rfl,hc',uY.2 ⟨hd,hdt⟩,by simp;omega,?_⟩
   ·simp only[STD,q0h,h3,h4,h5,and_self,qep hka,qep hkb,hrun,qoS,h6,h7]
   ·rw[qrb hka,qrb hkb,q3A,hla,hlb,show t.length=n-(k+1) by omega,show n-k=(n-(k+1))+1 by omega,Nat.pow_succ]
    generalize 10^(n-(k+1))=p at *
    cases add with
    | true=>
     simp only[↓reduceIte] at hrel hcol ⊢
     have:=congrArg (·*p) hcol
     simp only[Nat.add_mul] at this
     grind
    | false=>
     simp only[Bool.false_eq_true,↓reduceIte] at hrel hcol ⊢
     have:=congrArg (·*p) hcol
     simp only[Nat.add_mul] at this
     grind) (ps:=[.s a,.s b,.b add,.i 0,.i ((n:Int)-1),.r (rI (List.replicate n 0))]) ⟨[],0,by simp,by omega,qgn,by simp,by
    rw[List.drop_eq_nil_of_le (by omega),List.drop_eq_nil_of_le (by omega)];cases add<;>simp[qak]⟩
 obtain⟨rfl,t,c,rfl,h3,h4,h5⟩:=h2
 exact⟨t,c,h1,h3,h4,h5⟩
theorem quW{m n t c p:Nat}{add:Bool}(hm:m<p)(hn:n<p)(ht:t<p*10)(h4:if add then m+n=t+c*(p*10) else m+c*(p*10)=n+t)(hle:add=false→n≤m):t=if add then m+n else m-n:=by
 have hc0:c=0:=by
  rcases Nat.eq_zero_or_pos c with h|h
  ·exact h
  ·exfalso
   have h5:1*(p*10)≤c*(p*10):=Nat.mul_le_mul_right (p*10) h
   cases add with
   | true=>simp only[↓reduceIte] at h4;omega
   | false=>simp only[Bool.false_eq_true,↓reduceIte] at h4;have:=hle rfl;omega
 subst hc0
 cases add with
 | true=>simp only[↓reduceIte] at h4 ⊢;omega
 | false=>simp only[Bool.false_eq_true,↓reduceIte] at h4 ⊢;omega
theorem qnk(a b:Nat):qaM (a:Int) (b:Int)=((max a b:Nat):Int):=by unfold qaM;split<;>omega
theorem q6C(m n:Nat)(add:Bool)(hm:(tN m).length≤100000000)(hn:(tN n).length≤100000000)(hle:add=false→n≤m) :
  (vq [.s (tN m),.s (tN n),.b add]).run=some (0,[.s (tN (if add then m+n else m-n))]):=by
 rw[qkE]
 obtain⟨N,hN⟩:∃N,N=max (tN m).length (tN n).length+1:=⟨_,rfl⟩
 have l1:(tN m).length≤N-1:=by omega
 have l2:(tN n).length≤N-1:=by omega
 have l3:N=N-1+1:=by omega
 have p1:10^(tN m).length≤10^(N-1):=Nat.pow_le_pow_right (Nat.succ_pos 9) l1
 have p2:10^(tN n).length≤10^(N-1):=Nat.pow_le_pow_right (Nat.succ_pos 9) l2
 have p3:10^N=10^(N-1)*10:=(congrArg (10^·) l3).trans (Nat.pow_succ (n:=10) (m:=N-1))
 have e0:qh .i64 (qaM (qm (tN m)) (qm (tN n))) 1=(N:Int):=by
  unfold qm;rw[qnk,zh (by omega)];omega
 have e1:qz .i64 (N:Int) 1=(N:Int)-1:=yl (by omega)
 have e2:(0:Int)≤(N:Int)∧(N:Int)≤140737488355328:=by omega
 have wa:=qhD (tN m) N (by omega) (by omega) (by omega)
 have wb:=qhD (tN n) N (by omega) (by omega) (by omega)
 have hda:q3k (List.replicate (N-(tN m).length) 48++tN m):=q4Z.2 ⟨qhj _,zM _⟩
 have hdb:q3k (List.replicate (N-(tN n).length) 48++tN n):=q4Z.2 ⟨qhj _,zM _⟩
 obtain⟨t,c,h1,h2,h3,h4⟩:=qox (n:=N) hda hdb (by simp;omega) (by simp;omega) (by omega) add
 rw[qiB,qiB,uO,uO] at h4
 have ht:t≠[]:=by intro h;subst h;simp at h3;omega
 have hb:=q8k h2 ht (by omega)
 have e3:q21 (N:Int) [.i 0]=rI (List.replicate N 0):=by rw[qeD];rfl
 have hvm:=q4d (zM m)
 have hvn:=q4d (zM n)
 have hvt:=q4d h2
 rw[uO] at hvm hvn
 rw[h3] at hvt
 rw[p3] at h4 hvt
 have q1:=Nat.lt_of_lt_of_le hvm p1
 have q2:=Nat.lt_of_lt_of_le hvn p2
 clear hvm hvn p1 p2 p3
 have hval:val t=if add then m+n else m-n:=quW q1 q2 hvt h4 hle
 rw[hval] at hb
 simp only[STD,e0,wa,wb,e1,e2,and_self,e3,h1,qh5,hb]
theorem qpp(m n:Nat):(tN (m+n)).length≤max (tN m).length (tN n).length+1:=by
 have h1:=q4d (zM m)
 have h2:=q4d (zM n)
 rw[uO] at h1 h2
 have p1:10^(tN m).length≤10^(max (tN m).length (tN n).length):=Nat.pow_le_pow_right (by omega) (by omega)
 have p2:10^(tN n).length≤10^(max (tN m).length (tN n).length):=Nat.pow_le_pow_right (by omega) (by omega)
 exact q3p _ _ (by rw[Nat.pow_succ];omega)
theorem qiF(m n:Nat):(tN (m*n)).length≤(tN m).length+(tN n).length:=by
 have h1:=q4d (zM m)
 have h2:=q4d (zM n)
 rw[uO] at h1 h2
 have h3:=qdw m
 have h4:=qdw n
 have:m*n<10^((tN m).length+(tN n).length):=by
  rw[Nat.pow_add]
  exact Nat.mul_lt_mul'' h1 h2
 have:=q3p ((tN m).length+(tN n).length-1) (m*n) (by rwa [show (tN m).length+(tN n).length-1+1=(tN m).length+(tN n).length by omega])
 omega
def nl(m:Int):Nat:=(tN m.natAbs).length
theorem qj2(m:Int):0<nl m:=qdw _
theorem qoB(m:Int):nl (-m)=nl m:=by unfold nl;rw[Int.natAbs_neg]
theorem qou(m n:Int):nl (m+n)≤max (nl m) (nl n)+1:=by
 unfold nl
 exact Nat.le_trans (q01 (Int.natAbs_add_le m n)) (qpp _ _)
theorem q2u(m n:Int):nl (m*n)≤nl m+nl n:=by
 unfold nl;rw[Int.natAbs_mul];exact qiF _ _
theorem qyu{m:Int}{k:Nat}(h:nl m≤k):m.natAbs<10^k:=q3v h
theorem qnC(m n:Int)(hm:nl m≤100000000-1)(hn:nl n≤100000000-1):(q5q [.s (tI m),.s (tI n)]).run=some (0,[.s (tI (m+n))]):=by
 rw[qmr]
 have hm':(tN m.natAbs).length≤100000000-1:=hm
 have hn':(tN n.natAbs).length≤100000000-1:=hn
 have lt:=qou m n
 by_cases hb:(tN m.natAbs).length≤18∧(tN n.natAbs).length≤18
 ·have b1:m.natAbs<1000000000000000000:=Nat.lt_of_lt_of_le (q3v hb.1) (by decide)
  have b2:n.natAbs<1000000000000000000:=Nat.lt_of_lt_of_le (q3v hb.2) (by decide)
  have e1:qh .i64 m n=m+n:=zh (by omega)
  have e2:=q1D (m+n) (by omega) (by omega)
  clear b1 b2
  have hbr:=q48 m n
  rw[if_pos hb] at hbr
  simp only[STD,hbr,e1,e2]
 ·have hbr:=q48 m n
  rw[if_neg hb] at hbr
  have hP:=q6C m.natAbs n.natAbs true (by omega) (by omega) (fun h=>by cases h)
  simp only[↓reduceIte] at hP
  simp only[STD,hbr,wc,j2,qbP,decide_eq_decide,hP]
  have la:=qpp m.natAbs n.natAbs
  by_cases hs:(m<0)=(n<0)
  ·have hs':(m<0↔n<0):=by rw[hs]
   rw[if_pos hs']
   simp only[ua _ _ (show (tN (m.natAbs+n.natAbs)).length≤100000000 by omega),STD]
   have e:(if m<0 then -((m.natAbs+n.natAbs:Nat):Int) else ((m.natAbs+n.natAbs:Nat):Int))=m+n:=by
    by_cases h:m<0
    ·rw[if_pos h];have:=hs'.1 h;omega
    ·rw[if_neg h];have:¬n<0:=fun q=>h (hs'.2 q);omega
   rw[e]
  ·have hs':¬(m<0↔n<0):=fun h=>hs (propext h)
   rw[if_neg hs']
   by_cases hlt:m.natAbs<n.natAbs
   ·have hP2:=q6C n.natAbs m.natAbs false (by omega) (by omega) (fun _=>by omega)
    simp only[Bool.false_eq_true,↓reduceIte] at hP2
    have ls:(tN (n.natAbs-m.natAbs)).length≤100000000:=Nat.le_trans (q01 (Nat.sub_le _ _)) (by omega)
    simp only[STD,hlt,hP2,ua _ _ ls]
    have e:(if n<0 then -((n.natAbs-m.natAbs:Nat):Int) else ((n.natAbs-m.natAbs:Nat):Int))=m+n:=by
     by_cases h:n<0
     ·rw[if_pos h];have:¬m<0:=fun q=>hs' ⟨fun _=>h,fun _=>q⟩;omega
     ·rw[if_neg h];have:m<0:=by
       rcases Decidable.em (m<0) with q|q
       ·exact q
       ·exact absurd ⟨fun x=>absurd x q,fun x=>absurd x h⟩ hs'
      omega
    rw[e]
   ·have hP2:=q6C m.natAbs n.natAbs false (by omega) (by omega) (fun _=>by omega)
    simp only[Bool.false_eq_true,↓reduceIte] at hP2
    have ls:(tN (m.natAbs-n.natAbs)).length≤100000000:=Nat.le_trans (q01 (Nat.sub_le _ _)) (by omega)
    simp only[STD,hlt,hP2,ua _ _ ls]
    have e:(if m<0 then -((m.natAbs-n.natAbs:Nat):Int) else ((m.natAbs-n.natAbs:Nat):Int))=m+n:=by
     by_cases h:m<0
     ·rw[if_pos h];have:¬n<0:=fun q=>hs' ⟨fun _=>q,fun _=>h⟩;omega
     ·rw[if_neg h];have:n<0:=by
       rcases Decidable.em (n<0) with q|q
       ·exact q
       ·exact absurd ⟨fun x=>absurd x h,fun x=>absurd x q⟩ hs'
      omega
    rw[e]
theorem qaN(m n:Int)(hm:nl m≤100000000-1)(hn:nl n≤100000000-1):(j4 [.s (tI m),.s (tI n)]).run=some (0,[.s (tI (m-n))]):=by
 rw[qkF]
 have ht:=qdy n (by have:(tN n.natAbs).length≤100000000-1:=hn;omega)
 have hp:=qnC m (-n) hm (by rw[qoB];exact hn)
 rw[←Int.sub_eq_add_neg] at hp
 simp only[STD,ht,hp]
def sgn(n:Int):Int:=if n<0 then -1 else if n=0 then 0 else 1
theorem qgm(m n:Int)(hm:nl m≤100000000-1)(hn:nl n≤100000000-1):(kS [.s (tI m),.s (tI n)]).run=some (0,[.i (sgn (m-n))]):=by
 rw[qkA]
 have h0:(tI (m-n)=[48])=(m-n=0):=by
  have:tI 0=[48]:=rfl
  rw[←this];exact propext ⟨fun h=>qnF h,fun h=>by rw[h]⟩
 simp only[STD,qaN m n hm hn,zd,h0,j2]
 unfold sgn
 by_cases h1:m-n=0
 ·rw[if_pos h1,if_neg (by omega),if_pos h1]
 ·rw[if_neg h1]
  by_cases h2:m-n<0
  ·rw[if_pos h2,if_pos h2]
  ·rw[if_neg h2,if_neg h2,if_neg h1]
end Go.Eng

namespace Go.Eng
def wv(l:List Int):Int:=l.foldl (fun a x=>10*a+x) 0
theorem qmW:∀(t:List Int) (a:Int),t.foldl (fun a x=>10*a+x) a=a*10^t.length+wv t
 | [],a=>by simp[wv]
 | c::t,a=>by
  have h1:=qmW t (10*a+c)
  have h2:=qmW t (10*0+c)
  have h3:wv (c::t)=t.foldl (fun a x=>10*a+x) (10*0+c):=rfl
  rw[h3,h2,List.foldl_cons,h1,List.length_cons,Int.pow_succ]
  grind
theorem qh2(c:Int)(t:List Int):wv (c::t)=c*10^t.length+wv t:=by
 have h3:wv (c::t)=t.foldl (fun a x=>10*a+x) (10*0+c):=rfl
 rw[h3,qmW];grind
theorem qyL:wv []=0:=rfl
theorem qve(n:Nat):wv (List.replicate n 0)=0:=by
 induction n with
 | zero=>rfl
 | succ n ih=>rw[List.replicate_succ,qh2,ih];simp
theorem qwk:∀(l:List Int) (j:Nat) (hj:j<l.length) (y:Int),wv (l.set j y)=wv l+(y-l[j])*10^(l.length-(j+1))
 | [],j,hj,y=>by simp at hj
 | c::t,0,hj,y=>by
  rw[List.set_cons_zero,qh2,qh2]
  simp only[List.getElem_cons_zero,List.length_cons,Nat.add_sub_cancel,Nat.zero_add]
  grind
 | c::t,j+1,hj,y=>by
  have hj':j<t.length:=by simpa using hj
  rw[List.set_cons_succ,qh2,qh2,qwk t j hj' y,List.length_set]
  simp only[List.getElem_cons_succ,List.length_cons]
  rw[show t.length+1-(j+1+1)=t.length-(j+1) by omega]
  grind
theorem qxk{l:List Int}{k:Nat}(h:k<l.length):wv (l.drop k)=l[k]*10^(l.length-(k+1))+wv (l.drop (k+1)):=by
 rw[List.drop_eq_getElem_cons h,qh2,List.length_drop]
theorem vX{l:List Int}{j:Nat}(h:j<l.length):l.getD j 0=l[j]:=by simp[List.getD_eq_getElem?_getD,h]
theorem qj3{n i:Nat}(h:i<n):(10:Int)^(n-i)=10^(n-(i+1))*10:=by
 rw[←Int.pow_succ];congr 1;omega
theorem qsV{V A Q B:Int}:V*(Q*10)*B+A*B*Q=(10*V+A)*Q*B:=by grind
theorem qxr{P Q A V y:Int}:A*(10*V+y)*P*Q=A*V*(P*10)*Q+A*y*(P*Q):=by grind
theorem qmR{l:List Int}{j:Nat}{y B:Int}(h:∀x,x∈l→0≤x∧x≤B)(hy:0≤y∧y≤B):∀x,x∈l.set j y→0≤x∧x≤B:=by
 intro x hx
 rcases List.mem_or_eq_of_mem_set hx with h1|h1
 ·exact h x h1
 ·rw[h1];exact hy
theorem qrS{a b:List UInt8}(ha:q3k a)(hb:q3k b){i:Nat}(hi:i<a.length)(hla:a.length≤1000000)(hlb:b.length≤1000000){cols:List Int}(hc:cols.length=a.length+b.length){C:Nat}(hC:C≤1000000000000)
  (hB:∀x,x∈cols→0≤x∧x≤81*(C:Int)) :
  ∃cols':List Int,(qj yg [.s a,.s b,.i (i:Int),.i 0,.r (rI cols)]).run=some (0,[.s a,.s b,.i (i:Int),.r (rI cols')])∧cols'.length=a.length+b.length ∧
   (∀x,x∈cols'→0≤x∧x≤81*((C+b.length:Nat):Int))∧wv cols'=wv cols+(dv a[i]:Int)*(val b:Int)*10^(a.length-(i+1)):=by
 obtain⟨j,qs,h1,h2⟩:=vV (S:=yg) (fun K ps=>∃(k:Nat) (cs:List Int),K+k=b.length∧ps=[.s a,.s b,.i (i:Int),.i (k:Int),.r (rI cs)]∧cs.length=a.length+b.length ∧
   (∀x,x∈cs→0≤x∧x≤81*((C+k:Nat):Int))∧wv cs=wv cols+(dv a[i]:Int)*(val (b.take k):Int)*10^(b.length-k)*10^(a.length-(i+1)))
  (fun j qs=>j=0∧∃cs:List Int,qs=[.s a,.s b,.i (i:Int),.r (rI cs)]∧cs.length=a.length+b.length ∧
   (∀x,x∈cs→0≤x∧x≤81*((C+b.length:Nat):Int))∧wv cs=wv cols+(dv a[i]:Int)*(val b:Int)*10^(a.length-(i+1))) (n:=b.length) (by omega) (fun K ps hK ⟨k,cs,hkK,hps,hlen,hbd,hw⟩=>by
  subst hps
  rw[qfX]
  cases K with
  | zero=>
   right
   obtain rfl:k=b.length:=by omega
   have:¬(b.length:Int)<qm b:=by unfold qm;omega
   refine⟨0,[.s a,.s b,.i (i:Int),.r (rI cs)],?_,rfl,cs,rfl,hlen,hbd,?_⟩
   ·simp only[STD,this]
   ·rw[hw,List.take_length,Nat.sub_self];grind
  | succ K=>
   left
   have hk:k<b.length:=by omega
   have g1:(k:Int)<qm b:=by unfold qm;omega
   have g2:(i:Int)<qm a:=by unfold qm;omega
   have e1:qh .i64 (qh .i64 (i:Int) (k:Int)) 1=((i+k+1:Nat):Int):=by
    rw[zh (x:=(i:Int)) (by omega),zh (by omega)];omega
   have hj:i+k+1<cs.length:=by omega
   have g3:((i+k+1:Nat):Int)<qt (rI cs):=by rw[qfN];omega
   obtain⟨da,la⟩:=qpV ha hi
   obtain⟨db,lb⟩:=qpV hb hk
   have hx:=hbd _ (List.getElem_mem hj)
   have hmul:dv a[i]*dv b[k]≤9*9:=Nat.mul_le_mul (by omega) (by omega)
   have e2:kK .i64 (dv a[i]:Int) (dv b[k]:Int)=((dv a[i]*dv b[k]:Nat):Int):=by
    rw[q6V (by rw[←Int.natCast_mul];omega)];simp
   have e3:qh .i64 cs[i+k+1] ((dv a[i]*dv b[k]:Nat):Int)=cs[i+k+1]+((dv a[i]*dv b[k]:Nat):Int):=zh (by omega)
   have e4:=q43 hk (by omega)
   refine⟨K,[.s a,.s b,.i (i:Int),.i ((k+1:Nat):Int),.r (rI (cs.set (i+k+1) (cs[i+k+1]+((dv a[i]*dv b[k]:Nat):Int))))],by omega,?_,k+1,_,by omega,rfl,by simpa using hlen,?_,?_⟩
   ·simp only[STD,g1,g2,q0h,and_self,e1,g3,da,db,e2,qxi,Int.toNat_natCast,vX hj,e3,e4,qoS]
   ·refine qmR (fun x hx=>?_) ?_
    ·have:=hbd x hx;omega
    ·omega
   ·rw[qwk _ _ hj,hw,q6s hk,hlen]
    have p1:=qj3 hk
    have p2:(10:Int)^(a.length+b.length-(i+k+1+1))=10^(b.length-(k+1))*10^(a.length-(i+1)):=by
     rw[←Int.pow_add];congr 1;omega
    rw[p1,p2]
    generalize (10:Int)^(b.length-(k+1))=P
    generalize (10:Int)^(a.length-(i+1))=Q
    simp only[Int.natCast_add,Int.natCast_mul]
    generalize (dv a[i]:Int)=A
    generalize (dv b[k]:Int)=y
    generalize (val (b.take k):Int)=V
    generalize cs[i+k+1]=c
    have:=qxr (P:=P) (Q:=Q) (A:=A) (V:=V) (y:=y)
    grind) (ps:=[.s a,.s b,.i (i:Int),.i 0,.r (rI cols)]) ⟨0,cols,by omega,rfl,hc,by simpa using hB,by simp[qak]⟩
 obtain⟨rfl,cs,rfl,h3,h4,h5⟩:=h2
 exact⟨cs,h1,h3,h4,h5⟩
theorem qsR{a b:List UInt8}(ha:q3k a)(hb:q3k b)(hla:a.length≤1000000)(hlb:b.length≤1000000) :
  ∃cols:List Int,(qj ye [.s a,.s b,.i 0,.r (rI (List.replicate (a.length+b.length) 0))]).run=some (0,[.r (rI cols)])∧cols.length=a.length+b.length ∧
   (∀x,x∈cols→0≤x∧x≤81000000000000)∧wv cols=(val a:Int)*(val b:Int):=by
 have hsq:∀i,i≤a.length→i*b.length≤1000000000000:=fun i hi=>by
  have:=Nat.mul_le_mul (show i≤1000000 by omega) hlb;omega
 obtain⟨j,qs,h1,h2⟩:=vV (S:=ye) (fun K ps=>∃(i:Nat) (cs:List Int),K+i=a.length∧ps=[.s a,.s b,.i (i:Int),.r (rI cs)]∧cs.length=a.length+b.length ∧
   (∀x,x∈cs→0≤x∧x≤81*((i*b.length:Nat):Int))∧wv cs=(val (a.take i):Int)*10^(a.length-i)*(val b:Int))
  (fun j qs=>j=0∧∃cs:List Int,qs=[.r (rI cs)]∧cs.length=a.length+b.length∧(∀x,x∈cs→0≤x∧x≤81000000000000)∧wv cs=(val a:Int)*(val b:Int)) (n:=a.length) (by omega) (fun K ps hK ⟨i,cs,hiK,hps,hlen,hbd,hw⟩=>by
  subst hps
  rw[qfe]
  have hs:=hsq i (by omega)
  cases K with
  | zero=>
   right
   obtain rfl:i=a.length:=by omega
   have:¬(a.length:Int)<qm a:=by unfold qm;omega
   refine⟨0,[.r (rI cs)],?_,rfl,cs,rfl,hlen,fun x hx=>?_,?_⟩
   ·simp only[STD,this]
   ·have:=hbd x hx;omega
   ·rw[hw,List.take_length,Nat.sub_self];grind
  | succ K=>
   left
   have hi:i<a.length:=by omega
   have g1:(i:Int)<qm a:=by unfold qm;omega
   obtain⟨cs',q1,q2,q3,q4⟩:=qrS ha hb hi hla hlb hlen (C:=i*b.length) hs hbd
   have e4:=q43 hi (by omega)
   refine⟨K,[.s a,.s b,.i ((i+1:Nat):Int),.r (rI cs')],by omega,?_,i+1,cs',by omega,rfl,q2,?_,?_⟩
   ·simp only[STD,g1,q1,e4]
   ·rw[Nat.add_mul,Nat.one_mul];exact q3
   ·rw[q4,hw,q6s hi]
    rw[qj3 hi,Int.natCast_add,Int.natCast_mul]
    exact qsV) (ps:=[.s a,.s b,.i 0,.r (rI (List.replicate (a.length+b.length) 0))]) ⟨0,List.replicate (a.length+b.length) 0,by omega,rfl,by simp,fun x hx=>by rw[(List.mem_replicate.1 hx).2];omega,by rw[qve];simp[qak]⟩
 obtain⟨rfl,cs,rfl,h3,h4,h5⟩:=h2
 exact⟨cs,h1,h3,h4,h5⟩
theorem qrF{cols:List Int}{N:Nat}(hl:cols.length=N)(hN:N≤2000000)(hB:∀x,x∈cols→0≤x∧x≤81000000000000) :
  ∃(t:List UInt8) (c:Nat),(qj jk [.i 0,.i ((N:Int)-1),.r (rI cols),.r (rI (List.replicate N 0))]).run=some (0,[.r (rI (t.map fun c=>(c.toNat:Int)))])∧q3k t∧t.length=N∧wv cols=(val t:Int)+(c:Int)*10^N:=by
 obtain⟨j,qs,h1,h2⟩:=vV (S:=jk) (fun K ps=>∃(t:List UInt8) (c:Nat),ps=[.i (c:Int),.i ((K:Int)-1),.r (rI cols),.r (rI (List.replicate K 0++t.map fun c=>(c.toNat:Int)))]∧c≤81000000000000∧q3k t∧K+t.length=N ∧
   wv (cols.drop K)=(val t:Int)+(c:Int)*10^(N-K))
  (fun j qs=>j=0∧∃(t:List UInt8) (c:Nat),qs=[.r (rI (t.map fun c=>(c.toNat:Int)))]∧q3k t∧t.length=N∧wv cols=(val t:Int)+(c:Int)*10^N) (n:=N) (by omega) (fun K ps hK ⟨t,c,hps,hc,hdt,hlt,hrel⟩=>by
  subst hps
  rw[qeu]
  cases K with
  | zero=>
   right
   have:¬(0:Int)≤((0:Nat):Int)-1:=by omega
   refine⟨0,[.r (rI (t.map fun c=>(c.toNat:Int)))],?_,rfl,t,c,rfl,hdt,by omega,by simpa using hrel⟩
   simp only[STD,this,List.replicate_zero,List.nil_append]
  | succ K=>
   left
   have e0:((K+1:Nat):Int)-1=(K:Int):=by omega
   rw[e0]
   have hk:K<cols.length:=by omega
   obtain⟨x,hx⟩:∃x:Nat,cols[K]=(x:Int)∧x≤81000000000000:=by
    have:=hB _ (List.getElem_mem hk)
    exact⟨cols[K].toNat,by omega,by omega⟩
   have e1:qh .i64 (c:Int) (x:Int)=((c+x:Nat):Int):=by rw[zh (by omega)];omega
   have e2:jP .i64 ((c+x:Nat):Int) 10=(((c+x)/10:Nat):Int):=qr5 (b:=10) (by omega)
   have e3:q4g ((c+x:Nat):Int) 10=(((c+x)%10:Nat):Int):=qij _ 10
   have e4:vA .u8 (qh .i64 48 (((c+x)%10:Nat):Int))=((dch ((c+x)%10)).toNat:Int):=by
    rw[zh (by omega),qlq (by omega),q1d (by omega)];omega
   have h3:(K:Int)<qt (rI cols):=by rw[qfN];omega
   have h5:(K:Int)<qt (rI (List.replicate (K+1) 0++t.map fun c=>(c.toNat:Int))):=by rw[qfN];simp;omega
   have h6:(List.replicate (K+1) (0:Int)++t.map fun c=>(c.toNat:Int)).set K ((dch ((c+x)%10)).toNat:Int)=List.replicate K 0++(dch ((c+x)%10)::t).map fun c=>(c.toNat:Int):=by
    rw[List.replicate_succ',List.append_assoc,List.set_append_right _ _ (by simp),List.length_replicate,Nat.sub_self];rfl
   have h7:qz .i64 (K:Int) 1=(K:Int)-1:=yl (by omega)
   refine⟨K,[.i (((c+x)/10:Nat):Int),.i ((K:Int)-1),.r (rI cols),.r (rI (List.replicate K 0++(dch ((c+x)%10)::t).map fun c=>(c.toNat:Int)))],by omega,?_,_,_,rfl,by omega,uY.2 ⟨by rw[q1d (by omega)];omega,hdt⟩,by simp;omega,?_⟩
   ·simp only[STD,q0h,h3,h5,and_self,qxi,Int.toNat_natCast,vX hk,hx.1,e1,e2,e3,e4,qoS,h6,h7]
   ·rw[qxk hk,hrel,q3A,hx.1,hl,qhF (by omega),show t.length=N-(K+1) by omega]
    rw[qj3 (show K<N by omega)]
    have e:((c+x:Nat):Int)=10*(((c+x)/10:Nat):Int)+(((c+x)%10:Nat):Int):=by omega
    simp only[Int.natCast_add,Int.natCast_mul,Int.natCast_pow] at e ⊢
    generalize hP:(10:Int)^(N-(K+1))=P at *
    generalize (((c+x)/10:Nat):Int)=q at *
    generalize (((c+x)%10:Nat):Int)=r at *
    have:(c:Int)=10*q+r-x:=by omega
    rw[this];grind) (ps:=[.i 0,.i ((N:Int)-1),.r (rI cols),.r (rI (List.replicate N 0))]) ⟨[],0,by simp,by omega,qgn,by simp,by
    rw[List.drop_eq_nil_of_le (by omega)];simp[qak,qyL]⟩
 obtain⟨rfl,t,c,rfl,h3,h4,h5⟩:=h2
 exact⟨t,c,h1,h3,h4,h5⟩
theorem qkk(m n:Nat)(hm:(tN m).length≤1000000)(hn:(tN n).length≤1000000):(kg [.s (tN m),.s (tN n)]).run=some (0,[.s (tN (m*n))]):=by
 rw[qhT]
 obtain⟨cols,c1,c2,c3,c4⟩:=qsR (zM m) (zM n) hm hn
 obtain⟨N,hN⟩:∃N,N=(tN m).length+(tN n).length:=⟨_,rfl⟩
 have hp:=qdw m
 rw[←hN] at c1 c2
 obtain⟨t,c,t1,t2,t3,t4⟩:=qrF c2 (by omega) c3
 have ht:t≠[]:=by intro h;subst h;simp at t3;omega
 have hb:=q8k t2 ht (by omega)
 have e0:qh .i64 (qm (tN m)) (qm (tN n))=(N:Int):=by unfold qm;rw[zh (by omega)];omega
 have e1:(0:Int)≤(N:Int)∧(N:Int)≤17592186044416:=by omega
 have e1':(0:Int)≤(N:Int)∧(N:Int)≤140737488355328:=by omega
 have e2:q21 (N:Int) [.i 0]=rI (List.replicate N 0):=by rw[qeD];rfl
 have e3:qt (rI cols)=(N:Int):=by rw[qfN,c2]
 have e4:qz .i64 (N:Int) 1=(N:Int)-1:=yl (by omega)
 have hval:val t=m*n:=by
  have v1:=q4d (zM m)
  have v2:=q4d (zM n)
  have v3:=q4d t2
  rw[t3] at v3
  rw[c4,uO,uO] at t4
  rw[uO] at v1 v2
  have v4:m*n<10^N:=by rw[hN,Nat.pow_add];exact Nat.mul_lt_mul'' v1 v2
  have t5:m*n=val t+c*10^N:=by
   have:((m*n:Nat):Int)=((val t+c*10^N:Nat):Int):=by simpa using t4
   omega
  clear t4 c4 v1 v2
  generalize 10^N=P at *
  rcases Nat.eq_zero_or_pos c with h|h
  ·subst h;omega
  ·have:=Nat.mul_le_mul_right P h;omega
 rw[hval] at hb
 simp only[STD,e0,e1,e1',and_self,e2,c1,e3,e4,t1,qh5,hb]
theorem qnb(m n:Int)(hm:nl m≤1000000)(hn:nl n≤1000000):(q0b [.s (tI m),.s (tI n)]).run=some (0,[.s (tI (m*n))]):=by
 rw[qkx]
 have hm':(tN m.natAbs).length≤1000000:=hm
 have hn':(tN n.natAbs).length≤1000000:=hn
 have hbr:=q48 m n
 have hP:=qkk m.natAbs n.natAbs hm' hn'
 have lm:=qiF m.natAbs n.natAbs
 have hS:=fun b=>ua (m.natAbs*n.natAbs) b (by omega)
 have tm:=qrp m
 have tn:=qrp n
 have e0:qh .i64 (qm (tI m)) (qm (tI n))=(((tI m).length+(tI n).length:Nat):Int):=by unfold qm;rw[zh (by omega)];omega
 have sg:(if (¬((m<0)=(n<0))) then -((m.natAbs*n.natAbs:Nat):Int) else ((m.natAbs*n.natAbs:Nat):Int))=m*n:=by
  by_cases h1:m<0<;>by_cases h2:n<0
  ·simp only[h1,h2,not_true_eq_false,if_false]
   rw[Int.natCast_mul,show (m.natAbs:Int)=-m by omega,show (n.natAbs:Int)=-n by omega];grind
  ·simp only[h1,h2]
   rw[if_pos (by simp),Int.natCast_mul,show (m.natAbs:Int)=-m by omega,show (n.natAbs:Int)=n by omega];grind
  ·simp only[h1,h2]
   rw[if_pos (by simp),Int.natCast_mul,show (m.natAbs:Int)=m by omega,show (n.natAbs:Int)=-n by omega];grind
  ·simp only[h1,h2,not_true_eq_false,if_false]
   rw[Int.natCast_mul,show (m.natAbs:Int)=m by omega,show (n.natAbs:Int)=n by omega]
 by_cases hb:(tN m.natAbs).length≤18∧(tN n.natAbs).length≤18
 ·rw[if_pos hb] at hbr
  by_cases h18:(tI m).length+(tI n).length≤18
  ·have h18':(((tI m).length+(tI n).length:Nat):Int)≤18:=by omega
   have lmn:(tN (m*n).natAbs).length≤18:=by
    rw[Int.natAbs_mul]
    have h3:∀q:Int,(tN q.natAbs).length≤(tI q).length:=fun q=>by unfold tI;split<;>simp
    have:=h3 m;have:=h3 n;omega
   have b1:(m*n).natAbs<1000000000000000000:=Nat.lt_of_lt_of_le (q3v lmn) (by decide)
   have e1:kK .i64 m n=m*n:=q6V (by omega)
   have e2:=q1D (m*n) (by omega) (by omega)
   clear b1
   simp only[STD,hbr,e0,h18',e1,e2]
  ·have h18':¬(((tI m).length+(tI n).length:Nat):Int)≤18:=by omega
   simp only[STD,hbr,e0,h18',wc,hP,j2,hS,decide_eq_decide]
   rw[←sg];simp only[eq_iff_iff]
 ·rw[if_neg hb] at hbr
  simp only[STD,hbr,wc,hP,j2,hS,decide_eq_decide]
  rw[←sg];simp only[eq_iff_iff]
end Go.Eng

namespace Go.Eng
theorem qyb{x:Int}(h:0≤x∧x≤254):qh .u8 x 1=x+1:=by
 unfold qh IntKind.wrap
 simp[IntKind.signed,IntKind.bits];omega
theorem qqa(a q:List UInt8)(i:Int){b x0:Nat}(hb:0<b)(hx:x0<10*b)(lb:(tN b).length≤1000000)(lx:(tN x0).length≤1000002) :
  (qj jl [.s a,.s (tN b),.s q,.s (tN x0),.i i,.i 48]).run=some (0,[.s a,.s (tN b),.s q,.s (tN (x0%b)),.i i,.i (48+((x0/b:Nat):Int))]):=by
 obtain⟨j,qs,h1,h2⟩:=vV (S:=jl) (fun k ps=>∃x c:Nat,ps=[.s a,.s (tN b),.s q,.s (tN x),.i i,.i (48+(c:Int))]∧x+c*b=x0∧c+k=10∧c≤9)
  (fun j qs=>j=0∧qs=[.s a,.s (tN b),.s q,.s (tN (x0%b)),.i i,.i (48+((x0/b:Nat):Int))]) (n:=10) (by omega) (fun k ps hk ⟨x,c,hps,he,hck,hc⟩=>by
  subst hps
  rw[qdZ]
  have hxl:x≤x0:=by rw[←he];exact Nat.le_add_right _ _
  have hP:=q6C x b false (by have:=q01 hxl;omega) (by omega)
  by_cases hlt:x<b
  ·right
   refine⟨0,[.s a,.s (tN b),.s q,.s (tN x),.i i,.i (48+(c:Int))],?_,rfl,?_⟩
   ·simp only[STD,qbP,hlt,decide_true]
   ·have e1:x0/b=c:=by rw[←he,Nat.add_mul_div_right _ _ hb,Nat.div_eq_of_lt hlt,Nat.zero_add]
    have e2:x0%b=x:=by rw[←he,Nat.add_mul_mod_self_right,Nat.mod_eq_of_lt hlt]
    rw[e1,e2]
  ·left
   have hge:b≤x:=by omega
   have hP:=hP (fun _=>hge)
   simp only[Bool.false_eq_true,↓reduceIte] at hP
   have hc9:c+1<10:=by
    apply Nat.lt_of_mul_lt_mul_right (a:=b)
    have:(c+1)*b=c*b+b:=Nat.succ_mul c b
    omega
   refine⟨k-1,[.s a,.s (tN b),.s q,.s (tN (x-b)),.i i,.i (48+((c+1:Nat):Int))],by omega,?_,x-b,c+1,rfl,?_,by omega,by omega⟩
   ·simp only[STD,qbP,hlt,decide_false,hP,qyb (show (0:Int)≤48+(c:Int)∧48+(c:Int)≤254 by omega)]
    rw[show (48+(c:Int)+1)=48+((c+1:Nat):Int) by omega]
   ·have:(c+1)*b=c*b+b:=Nat.succ_mul c b
    omega) (ps:=[.s a,.s (tN b),.s q,.s (tN x0),.i i,.i 48]) ⟨x0,0,by simp,by simp,by omega,by omega⟩
 obtain⟨rfl,rfl⟩:=h2
 exact h1
theorem qvW{s:List UInt8}{i:Nat}(h:i<s.length):q8i s (i:Int) (((i+1:Nat):Int))=[s[i]]:=by
 unfold q8i
 simp only[Int.toNat_natCast]
 rw[List.take_succ_eq_append_getElem h,List.drop_append_of_le_length (by simp;omega)]
 rw[List.drop_of_length_le (by simp;omega)];rfl
theorem qjc{m n:Nat}(hn:0<n)(lm:(tN m).length≤1000000)(ln:(tN n).length≤1000000) :
  (q1p [.s (tN m),.s (tN n)]).run=some (0,[.s (tN (m/n)),.s (tN (m%n))]):=by
 rw[qhW]
 have hdm:=zM m
 obtain⟨j,qs,h1,rfl,q,h2,h3,h4,h5⟩:=vV (S:=kq) (fun k ps=>∃(i r:Nat) (q:List UInt8),ps=[.s (tN m),.s (tN n),.s q,.s (tN r),.i (i:Int)]∧i+k=(tN m).length∧q.length=i∧q3k q∧val q*n+r=val ((tN m).take i)∧r<n)
  (fun j qs=>j=0∧∃q:List UInt8,qs=[.s q,.s (tN (m%n))]∧q.length=(tN m).length∧q3k q∧val q=m/n) (n:=(tN m).length) (by omega) (fun k ps hk ⟨i,r,q,hps,hik,hql,hdq,hv,hr⟩=>by
  subst hps
  rw[qgd]
  by_cases hi:i<(tN m).length
  ·left
   have hc:=qcI hdm hi
   have hw:qh .i64 (i:Int) 1=((i+1:Nat):Int):=by rw[zh (by omega)];omega
   have hlr:(tN r).length≤(tN n).length:=q01 (by omega)
   have hd10:=qsG hc
   have hB:=q8k (s:=tN r++[(tN m)[i]]) (q4Z.2 ⟨zM r,fun c hcc=>by simp at hcc;subst hcc;exact hc⟩) (by simp) (by simp;omega)
   rw[qg2,uO] at hB
   have lx:(tN (10*r+dv (tN m)[i])).length≤1000002:=by
    have h10:10*r+dv (tN m)[i]≤10*n:=by omega
    have e10:(tN (10*n)).length≤(tN 10).length+(tN n).length:=qiF 10 n
    have e11:(tN 10).length=2:=by decide
    have:=q01 h10
    omega
   have hI:=qqa (tN m) q (i:Int) hn (x0:=10*r+dv (tN m)[i]) (by omega) ln lx
   have hq10:(10*r+dv (tN m)[i])/n<10:=by
    rw[Nat.div_lt_iff_lt_mul hn];omega
   have hd1:(i:Int)<qm (tN m):=by unfold qm;omega
   have hd2:((i+1:Nat):Int)≤qm (tN m):=by unfold qm;omega
   have hrs:qd4 [[.i (48+(((10*r+dv (tN m)[i])/n:Nat):Int))]]=[dch ((10*r+dv (tN m)[i])/n)]:=by
    simp only[qd4,List.map_cons,List.map_nil,List.getD_cons_zero,U.toI,dch]
    congr 2
   have hl1:qm (tN r)+qm [(tN m)[i]]≤140737488355328:=by unfold qm;simp;omega
   have hl2:qm q+qm [dch ((10*r+dv (tN m)[i])/n)]≤140737488355328:=by unfold qm;simp;omega
   refine⟨k-1,[.s (tN m),.s (tN n),.s (q++[dch ((10*r+dv (tN m)[i])/n)]),.s (tN ((10*r+dv (tN m)[i])%n)),.i ((i+1:Nat):Int)],by omega,?_,i+1,_,_,rfl,by omega,by simp[hql],?_,?_,Nat.mod_lt _ hn⟩
   ·simp only[STD,hw,hd1,hd2,qvW hi,hl1,qeL,hB,hI,hrs,hl2,show (0:Int)≤(i:Int) by omega,show (0:Int)≤((i+1:Nat):Int) by omega,show (i:Int)≤((i+1:Nat):Int) by omega,and_self]
   ·exact q4Z.2 ⟨hdq,qmF hq10⟩
   ·rw[qg2,qhF hq10,q6s hi,←hv]
    have hdm:=Nat.div_add_mod (10*r+dv (tN m)[i]) n
    generalize (10*r+dv (tN m)[i])/n=c at *
    generalize (10*r+dv (tN m)[i])%n=e at *
    have e1:(10*val q+c)*n=10*(val q*n)+n*c:=by rw[Nat.add_mul,Nat.mul_assoc,Nat.mul_comm c n]
    omega
  ·right
   have hie:i=(tN m).length:=by omega
   have hd1:¬((i:Int)<qm (tN m)):=by unfold qm;omega
   rw[hie,List.take_length,uO] at hv
   have e1:m/n=val q:=by rw[←hv,Nat.add_comm,Nat.add_mul_div_right _ _ hn,Nat.div_eq_of_lt hr,Nat.zero_add]
   have e2:m%n=r:=by rw[←hv,Nat.add_comm,Nat.add_mul_mod_self_right,Nat.mod_eq_of_lt hr]
   refine⟨0,[.s q,.s (tN r)],?_,rfl,q,by rw[e2],by omega,hdq,e1.symm⟩
   simp only[STD,hd1]) (ps:=[.s (tN m),.s (tN n),.s [],.s [48],.i 0]) ⟨0,0,[],rfl,by omega,rfl,qgn,by simp[qak],hn⟩
 subst h2
 have hB:=q8k (s:=q) h4 (by intro h;subst h;have:=qdw m;simp at h3;omega) (by omega)
 rw[h5] at hB
 simp only[STD,h1,hB]
def fq(m n:Int):Int:=if 0<n then m/n else (-m)/(-n)
theorem qjs{m n q:Int}(h:(0<n∧q*n≤m∧m<q*n+n)∨(n<0∧q*n+n<m∧m≤q*n)):fq m n=q:=by
 unfold fq
 rcases h with⟨h0,h1,h2⟩|⟨h0,h1,h2⟩
 ·rw[if_pos h0]
  exact((Int.ediv_emod_unique (r:=m-q*n) h0).2 ⟨by rw[Int.mul_comm];omega,by omega,by omega⟩).1
 ·rw[if_neg (by omega)]
  have e:-n*q=-(q*n):=by rw[Int.neg_mul,Int.mul_comm]
  exact((Int.ediv_emod_unique (r:=q*n-m) (show 0 < -n by omega)).2 ⟨by omega,by omega,by omega⟩).1
theorem qzf(m:Int){n:Int}(_:n≠0):(fq m n).natAbs≤m.natAbs+1:=by
 unfold fq
 split
 ·have:=Int.natAbs_ediv_le_natAbs m n;omega
 ·have:=Int.natAbs_ediv_le_natAbs (-m) (-n);omega
theorem qgw(m:Int){n:Int}(hn:n≠0):n*m.tdiv n+q4g m n=m∧(q4g m n).natAbs<n.natAbs∧(0≤m→0≤q4g m n)∧(m≤0→q4g m n≤0):=by
 unfold q4g
 refine⟨Int.mul_tdiv_add_tmod m n,?_,fun h=>Int.tmod_nonneg n h,fun h=>?_⟩
 ·rw[Int.natAbs_tmod]
  exact Nat.mod_lt _ (by omega)
 ·have:=Int.tmod_nonneg n (show 0≤-m by omega)
  rw[Int.neg_tmod] at this
  omega
end Go.Eng

namespace Go.Eng
theorem qvA{m:Int}(h:(tN m.natAbs).length≤18):m.natAbs<1000000000000000000:=Nat.lt_of_lt_of_le (q3v h) (by decide)
theorem qd1{n t:Int}(hn:n≠0)(h:-9223372036854775808≤t∧t≤9223372036854775807):jP .i64 (n*t) n=t:=by
 unfold jP
 rw[Int.mul_tdiv_cancel_left _ hn]
 unfold IntKind.wrap
 simp[IntKind.signed,IntKind.bits];omega
theorem qxG(m:Int)(n:Int):(m.tdiv n).natAbs≤m.natAbs:=by
 rw[Int.natAbs_tdiv];exact Nat.div_le_self _ _
theorem qw1{m n:Int}(hn:n≠0) :
  (q4g m n≠0∧¬((q4g m n<0)=(n<0))→fq m n=m.tdiv n-1∧m-fq m n*n=q4g m n+n)∧(¬(q4g m n≠0∧¬((q4g m n<0)=(n<0)))→fq m n=m.tdiv n∧m-fq m n*n=q4g m n):=by
 obtain⟨h1,h2,h3,h4⟩:=qgw m hn
 generalize m.tdiv n=t at *
 generalize q4g m n=r at *
 have e:n*t=t*n:=Int.mul_comm _ _
 have e2:(t-1)*n=t*n-n:=by rw[Int.sub_mul,Int.one_mul]
 constructor
 ·intro⟨c1,c2⟩
  have c3:¬(r<0↔n<0):=fun h=>c2 (propext h)
  have:fq m n=t-1:=by
   apply qjs
   rw[e2]
   rcases Int.lt_or_lt_of_ne hn with h|h
   ·have:¬r<0:=fun q=>c3 ⟨fun _=>h,fun _=>q⟩
    exact .inr ⟨h,by omega,by omega⟩
   ·have:r<0:=by
     rcases Decidable.em (r<0) with q|q
     ·exact q
     ·exact absurd ⟨fun x=>by omega,fun x=>by omega⟩ c3
    exact .inl ⟨h,by omega,by omega⟩
  rw[this,e2]
  exact⟨rfl,by omega⟩
 ·intro c
  have c':r=0∨(r<0↔n<0):=by
   rcases Decidable.em (r=0) with q|q
   ·exact .inl q
   ·right
    rcases Decidable.em (r<0↔n<0) with q2|q2
    ·exact q2
    ·exact absurd ⟨q,fun h=>q2 (by rw[h])⟩ c
  have:fq m n=t:=by
   apply qjs
   rcases Int.lt_or_lt_of_ne hn with h|h
   ·rcases c' with q|q
    ·exact .inr ⟨h,by omega,by omega⟩
    ·have:=q.2 h;exact .inr ⟨h,by omega,by omega⟩
   ·rcases c' with q|q
    ·exact .inl ⟨h,by omega,by omega⟩
    ·have:¬r<0:=fun x=>by have:=q.1 x;omega
     exact .inl ⟨h,by omega,by omega⟩
  rw[this]
  exact⟨rfl,by omega⟩
theorem qyd{m n:Int}(hn:n≠0) :
  (m.natAbs%n.natAbs≠0∧¬((m<0)=(n<0))→fq m n=-((m.natAbs/n.natAbs:Nat):Int)-1) ∧
  (¬(m.natAbs%n.natAbs≠0∧¬((m<0)=(n<0)))→fq m n=if ¬((m<0)=(n<0)) then -((m.natAbs/n.natAbs:Nat):Int) else ((m.natAbs/n.natAbs:Nat):Int)):=by
 have hd:=Nat.div_add_mod m.natAbs n.natAbs
 have hl:=Nat.mod_lt m.natAbs (show 0<n.natAbs by omega)
 generalize m.natAbs/n.natAbs=q at *
 generalize m.natAbs%n.natAbs=r at *
 have hq:((n.natAbs*q:Nat):Int)=(n.natAbs:Int)*(q:Int):=by simp
 have e1:n<0→(n.natAbs:Int)*(q:Int)=-((q:Int)*n):=fun h=>by rw[show (n.natAbs:Int)=-n by omega,Int.neg_mul,Int.mul_comm]
 have e2:0<n→(n.natAbs:Int)*(q:Int)=(q:Int)*n:=fun h=>by rw[show (n.natAbs:Int)=n by omega,Int.mul_comm]
 have e3:(-(q:Int)-1)*n=-((q:Int)*n)-n:=by rw[Int.sub_mul,Int.neg_mul,Int.one_mul]
 have e4:(-(q:Int))*n=-((q:Int)*n):=Int.neg_mul _ _
 constructor
 ·intro⟨c1,c2⟩
  have c3:¬(m<0↔n<0):=fun h=>c2 (propext h)
  apply qjs
  rw[e3]
  rcases Int.lt_or_lt_of_ne hn with h|h
  ·have:=e1 h
   have:¬m<0:=fun q=>c3 ⟨fun _=>h,fun _=>q⟩
   exact .inr ⟨h,by omega,by omega⟩
  ·have:=e2 h
   have:m<0:=by
    rcases Decidable.em (m<0) with q|q
    ·exact q
    ·exact absurd ⟨fun x=>by omega,fun x=>by omega⟩ c3
   exact .inl ⟨h,by omega,by omega⟩
 ·intro c
  by_cases c2:(m<0)=(n<0)
  ·rw[if_neg (by simpa using c2)]
   have c3:m<0↔n<0:=by rw[c2]
   apply qjs
   rcases Int.lt_or_lt_of_ne hn with h|h
   ·have:=e1 h
    have:=c3.2 h
    exact .inr ⟨h,by omega,by omega⟩
   ·have:=e2 h
    have:¬m<0:=fun x=>by have:=c3.1 x;omega
    exact .inl ⟨h,by omega,by omega⟩
  ·rw[if_pos c2]
   have hr:r=0:=by
    rcases Nat.eq_zero_or_pos r with h|h
    ·exact h
    ·exact absurd ⟨by omega,c2⟩ c
   have c3:¬(m<0↔n<0):=fun h=>c2 (propext h)
   apply qjs
   rw[e4]
   rcases Int.lt_or_lt_of_ne hn with h|h
   ·have:=e1 h
    have:¬m<0:=fun q=>c3 ⟨fun _=>h,fun _=>q⟩
    exact .inr ⟨h,by omega,by omega⟩
   ·have:=e2 h
    have:m≤0:=by
     rcases Decidable.em (m<0) with q|q
     ·omega
     ·exact absurd ⟨fun x=>by omega,fun x=>by omega⟩ c3
    exact .inl ⟨h,by omega,by omega⟩
theorem qtB:tI 1=[49]:=rfl
theorem q35(n:Nat):(tN n=[48])=(n=0):=by
 rw[←qq3];exact propext ⟨fun h=>qlP h,fun h=>by rw[h]⟩
theorem qvB(m:Int){n:Int}(hn:n≠0):nl (fq m n)≤nl m+2:=by
 have h:=qzf m hn
 have h2:=q01 h
 have h3:=qpp m.natAbs 1
 have h4:(tN 1).length=1:=rfl
 have:=qdw m.natAbs
 unfold nl
 omega
theorem qkY(m n:Int)(hn0:n≠0)(hm:nl m≤400000)(hn:nl n≤400000):(ux [.s (tI m),.s (tI n)]).run=some (0,[.s (tI (fq m n)),.s (tI (m-fq m n*n))]):=by
 rw[qjD]
 have hbr:=q48 m n
 by_cases hb:(tN m.natAbs).length≤18∧(tN n.natAbs).length≤18
 ·rw[if_pos hb] at hbr
  have b1:=qvA hb.1
  have b2:=qvA hb.2
  obtain⟨h1,h2,h3,h4⟩:=qgw m hn0
  obtain⟨g1,g2⟩:=qw1 (m:=m) hn0
  have ht:=qxG m n
  by_cases c0:q4g m n=0
  ·obtain⟨e1,e2⟩:=g2 (fun h=>h.1 c0)
   rw[e2,e1]
   have w1:qz .i64 m (q4g m n)=n*m.tdiv n:=by rw[yl (by omega)];omega
   have w2:=qd1 (t:=m.tdiv n) hn0 (by omega)
   have o1:=q1D (m.tdiv n) (by omega) (by omega)
   have o2:=q1D (q4g m n) (by omega) (by omega)
   simp only[STD,hbr,hn0,c0] at w1 o2 ⊢
   simp only[STD,w1,w2,o1,o2]
  ·by_cases c1:(q4g m n<0)=(n<0)
   ·obtain⟨e1,e2⟩:=g2 (fun h=>h.2 c1)
    rw[e2,e1]
    have w1:qz .i64 m (q4g m n)=n*m.tdiv n:=by rw[yl (by omega)];omega
    have w2:=qd1 (t:=m.tdiv n) hn0 (by omega)
    have o1:=q1D (m.tdiv n) (by omega) (by omega)
    have o2:=q1D (q4g m n) (by omega) (by omega)
    have hbq:(ilt (q4g m n) 0=ilt n 0)=True:=by
     simp only[ilt,decide_eq_decide,eq_iff_iff,iff_true]
     rw[c1]
    simp only[STD,hbr,hn0,c0,hbq,w1,w2,o1,o2]
   ·obtain⟨e1,e2⟩:=g1 ⟨c0,c1⟩
    rw[e2,e1]
    have w0:qh .i64 (q4g m n) n=q4g m n+n:=zh (by omega)
    have e3:n*(m.tdiv n-1)=n*m.tdiv n-n:=by rw[Int.mul_sub,Int.mul_one]
    have w1:qz .i64 m (q4g m n+n)=n*(m.tdiv n-1):=by rw[yl (by omega)];omega
    have w2:=qd1 (t:=m.tdiv n-1) hn0 (by omega)
    have o1:=q1D (m.tdiv n-1) (by omega) (by omega)
    have o2:=q1D (q4g m n+n) (by omega) (by omega)
    have hbq:(ilt (q4g m n) 0=ilt n 0)=False:=by
     simp only[ilt,decide_eq_decide,eq_iff_iff,iff_false]
     exact fun h=>c1 (propext h)
    simp only[STD,hbr,hn0,c0,hbq,w0,w1,w2,o1,o2]
 ·rw[if_neg hb] at hbr
  have hm':(tN m.natAbs).length≤400000:=hm
  have hn':(tN n.natAbs).length≤400000:=hn
  have hD:=qjc (m:=m.natAbs) (n:=n.natAbs) (by omega) (by omega) (by omega)
  have lq:(tN (m.natAbs/n.natAbs)).length≤(tN m.natAbs).length:=q01 (Nat.div_le_self _ _)
  have hS:=fun b=>ua (m.natAbs/n.natAbs) b (by omega)
  have hbq:(decide (m<0)=decide (n<0))=((m<0)=(n<0)):=by
   simp only[decide_eq_decide,eq_iff_iff]
  have lf:=qvB m hn0
  have hT:=qnb (fq m n) n (by omega) (by omega)
  have lt:=q2u (fq m n) n
  have hM:=qaN m (fq m n*n) (by omega) (by omega)
  obtain⟨g1,g2⟩:=qyd (m:=m) hn0
  by_cases c1:(m<0)=(n<0)
  ·have e1:=g2 (fun h=>h.2 c1)
   rw[if_neg (by simpa using c1)] at e1
   have hS':=hS false
   simp only[Bool.false_eq_true,if_false] at hS'
   rw[←e1] at hS'
   have hnb:(!Go.Eng.beq (decide (m<0)) (decide (n<0)))=false:=by
    simp only[Go.Eng.beq,Bool.not_eq_false',beq_iff_eq];rw[hbq];exact c1
   by_cases c0:m.natAbs%n.natAbs=0
   ·simp only[STD,hbr,wc,hD,j2,hnb,hS',zd,q35,c0,hT,hM]
   ·simp only[STD,hbr,wc,hD,j2,hnb,hS',zd,q35,c0,hT,hM]
  ·have hnb:(!Go.Eng.beq (decide (m<0)) (decide (n<0)))=true:=by
    have:¬(decide (m<0)=decide (n<0)):=by rw[hbq];exact c1
    simp only[Go.Eng.beq,Bool.not_eq_true',beq_eq_false_iff_ne];exact this
   have hS':=hS true
   simp only[if_true] at hS'
   by_cases c0:m.natAbs%n.natAbs=0
   ·have e1:=g2 (fun h=>h.1 c0)
    rw[if_pos c1] at e1
    rw[←e1] at hS'
    simp only[STD,hbr,wc,hD,j2,hnb,hS',zd,q35,c0,hT,hM]
   ·have e1:=g1 ⟨c0,c1⟩
    have hMi:=qaN (-((m.natAbs/n.natAbs:Nat):Int)) 1 (by rw[qoB];show (tN (m.natAbs/n.natAbs)).length≤_;omega) (by decide)
    rw[qtB,←e1] at hMi
    simp only[STD,hbr,wc,hD,j2,hnb,hS',zd,q35,c0,hMi,hT,hM]
end Go.Eng

namespace Go.Eng
theorem qy8(x:Nat){y:Nat}(h:0<y):fq (x:Int) (y:Int)=((x/y:Nat):Int)∧(x:Int)-fq (x:Int) (y:Int)*(y:Int)=((x%y:Nat):Int):=by
 have e:fq (x:Int) (y:Int)=((x/y:Nat):Int):=by unfold fq;rw[if_pos (by omega)];rfl
 refine⟨e,?_⟩
 rw[e]
 have:=Nat.div_add_mod x y
 have h2:((y*(x/y):Nat):Int)=((x/y:Nat):Int)*(y:Int):=by rw[Nat.mul_comm];simp
 omega
theorem qvq(a b:Nat)(hb:b<9223372036854775808):(qj yb [.i (a:Int),.i (b:Int)]).run=some (0,[.i ((Nat.gcd a b:Nat):Int)]):=by
 obtain⟨j,qs,h1,rfl,rfl⟩:=vV (S:=yb) (fun k ps=>∃x y:Nat,ps=[.i (x:Int),.i (y:Int)]∧y=k∧Nat.gcd x y=Nat.gcd a b)
  (fun j qs=>j=0∧qs=[.i ((Nat.gcd a b:Nat):Int)]) (n:=b) hb (fun k ps hk ⟨x,y,hps,hy,hg⟩=>by
  subst hps
  rw[qfh]
  by_cases h0:y=0
  ·right
   refine⟨0,[.i (x:Int)],?_,rfl,?_⟩
   ·simp only[STD,h0];simp[]
   ·rw[←hg,h0,Nat.gcd_zero_right]
  ·left
   refine⟨x%y,[.i (y:Int),.i ((x%y:Nat):Int)],by rw[←hy];exact Nat.mod_lt _ (by omega),?_,y,x%y,rfl,rfl,?_⟩
   ·simp only[STD,show (0:Int)<(y:Int) by omega,show ¬((y:Int)=0) by omega,qij]
   ·rw[←hg,Nat.gcd_comm y,←Nat.gcd_rec,Nat.gcd_comm]) (ps:=[.i (a:Int),.i (b:Int)]) ⟨a,b,rfl,rfl,rfl⟩
 exact h1
def eM(a b:Nat):Nat:=if b=0 then 0 else Nat.log2 (a*b)+1+if a<b then 1 else 0
theorem quB{m n:Nat}(h:m≤n):Nat.log2 m≤Nat.log2 n:=by
 by_cases hm:m=0
 ·subst hm;simp
 ·rcases Nat.lt_or_ge (Nat.log2 n) (Nat.log2 m) with h1|h1
  ·have:=(Nat.log2_lt (show n≠0 by omega)).1 h1
   have h2:=Nat.log2_self_le hm
   omega
  ·exact h1
theorem qsX{a b:Nat}(hb:b≠0):eM b (a%b)<eM a b:=by
 have hlt:=Nat.mod_lt a (show 0<b by omega)
 unfold eM
 rw[if_neg hb]
 by_cases hr:a%b=0
 ·rw[if_pos hr];omega
 ·rw[if_neg hr,if_neg (show ¬b<a%b by omega)]
  by_cases hab:a<b
  ·rw[if_pos hab,Nat.mod_eq_of_lt hab,Nat.mul_comm b a];omega
  ·rw[if_neg hab]
   have hd:=Nat.div_add_mod a b
   have hq:1≤a/b:=(Nat.le_div_iff_mul_le (by omega)).2 (by omega)
   have h1:b*1≤b*(a/b):=Nat.mul_le_mul_left _ hq
   have h2:2*(b*(a%b))≤a*b:=by
    have:2*(a%b)≤a:=by omega
    have:=Nat.mul_le_mul_right b this
    rw[Nat.mul_assoc,Nat.mul_comm (a%b) b] at this
    exact this
   have h3:=quB h2
   have h4:Nat.log2 (2*(b*(a%b)))=Nat.log2 (b*(a%b))+1:=by
    apply Nat.log2_two_mul
    exact Nat.mul_ne_zero hb hr
   omega
theorem quZ{x k j:Nat}(h:(tN x).length≤k)(hj:4*k=j):x<2^j:=by
 have h3:x<10^k:=q3v h
 have h4:(10:Nat)^k≤16^k:=Nat.pow_le_pow_left (by omega) _
 have h5:(16:Nat)^k=2^j:=by rw[show (16:Nat)=2^4 from rfl,←Nat.pow_mul,hj]
 rw[h5] at h4
 exact Nat.lt_of_lt_of_le h3 h4
theorem qqT{a b:Nat}(ha:(tN a).length≤400000)(hb:(tN b).length≤400000):eM a b<9223372036854775808:=by
 unfold eM
 have h1:=qiF a b
 by_cases h0:a*b=0
 ·rw[h0];simp;split<;>(try split)<;>omega
 ·obtain⟨j,hj⟩:∃j,j=3200000:=⟨_,rfl⟩
  have h2:a*b<2^j:=quZ (k:=800000) (by omega) (by omega)
  have:=(Nat.log2_lt h0).2 h2
  split<;>(try split)<;>omega
theorem qkD(m n:Int)(hm:nl m≤400000)(hn:nl n≤400000):(q2I [.s (tI m),.s (tI n)]).run=some (0,[.s (tN (Nat.gcd m.natAbs n.natAbs))]):=by
 rw[qiJ]
 have hm':(tN m.natAbs).length≤400000:=hm
 have hn':(tN n.natAbs).length≤400000:=hn
 have hS:=fun x (h:(tN x).length≤400000)=>ua x false (by omega)
 simp only[Bool.false_eq_true,if_false,q1W] at hS
 obtain⟨j,qs,h1,h2,rfl⟩:=vV (S:=q0d) (fun k ps=>∃x y:Nat,ps=[.s (tN x),.s (tN y)]∧eM x y=k∧Nat.gcd x y=Nat.gcd m.natAbs n.natAbs∧(tN x).length≤400000∧(tN y).length≤400000)
  (fun j qs=>(j=0∨j=1)∧qs=[.s (tN (Nat.gcd m.natAbs n.natAbs))]) (n:=eM m.natAbs n.natAbs) (qqT hm' hn') (fun k ps hk ⟨x,y,hps,hy,hg,lx,ly⟩=>by
  subst hps
  rw[qgN]
  by_cases h0:y=0
  ·right
   refine⟨0,[.s (tN x)],?_,.inl rfl,?_⟩
   ·simp only[STD,zd,q35,h0]
   ·rw[←hg,h0,Nat.gcd_zero_right]
  ·have hbr:=q48 (x:Int) (y:Int)
   rw[q1W,q1W] at hbr
   simp only[Int.natAbs_natCast] at hbr
   by_cases hb:(tN x).length≤18∧(tN y).length≤18
   ·right
    rw[if_pos hb] at hbr
    have b1:=qvA (m:=(x:Int)) hb.1
    have b2:=qvA (m:=(y:Int)) hb.2
    simp only[Int.natAbs_natCast] at b1 b2
    have hE:=qvq x y (by omega)
    have hgl:Nat.gcd x y≤y:=Nat.gcd_le_right _ (by omega)
    have hO:=q1D ((Nat.gcd x y:Nat):Int) (by omega) (by omega)
    rw[q1W] at hO
    refine⟨1,[.s (tN (Nat.gcd x y))],?_,.inr rfl,by rw[hg]⟩
    simp only[STD,zd,q35,h0,hbr,hE,hO]
   ·left
    rw[if_neg hb] at hbr
    have hP:=qkY (x:Int) (y:Int) (by omega) (by exact lx) (by exact ly)
    rw[q1W,q1W,(qy8 x (show 0<y by omega)).2,q1W] at hP
    refine⟨eM y (x%y),[.s (tN y),.s (tN (x%y))],by rw[←hy];exact qsX h0,?_,y,x%y,rfl,rfl,?_,ly,Nat.le_trans (q01 (Nat.le_of_lt (Nat.mod_lt _ (by omega)))) ly⟩
    ·simp only[STD,zd,q35,h0,hbr,hP]
    ·rw[←hg,Nat.gcd_comm y,←Nat.gcd_rec,Nat.gcd_comm]) (ps:=[.s (tN m.natAbs),.s (tN n.natAbs)]) ⟨_,_,rfl,rfl,rfl,hm',hn'⟩
 rcases h2 with rfl|rfl
 ·simp only[STD,wc,hS _ hm',hS _ hn',h1,qM h1,ite_self]
 ·simp only[STD,wc,hS _ hm',hS _ hn',h1,qM h1,ite_self]
def mag(s:List UInt8):List UInt8:=if s.getD 0 0=45 then s.drop 1 else s
theorem qoh(m:Int):mag (tI m)=tN m.natAbs:=by
 unfold mag
 by_cases h:m<0
 ·rw[q8m h];simp
 ·rw[qec h]
  obtain⟨c,t,e,h1,h2⟩:=qcF (zM m.natAbs) (qjt _)
  rw[e]
  simp only[List.getD_cons_zero]
  rw[if_neg]
  intro hc;subst hc;revert h1;decide
theorem qoi(s:List UInt8):(∃m:Int,s=tI m)↔mag s≠[]∧q3k (mag s)∧((mag s).getD 0 0=48→s.length=1):=by
 constructor
 ·rintro ⟨m,rfl⟩
  rw[qoh]
  refine⟨qjt _,zM _,fun h=>?_⟩
  rcases qv3 m.natAbs with h1|h1
  ·have h2:=qlY m.natAbs
   have hv:m.natAbs=0:=by
    obtain⟨c,e⟩:∃c,tN m.natAbs=[c]:=List.length_eq_one_iff.1 h1
    rw[e] at h
    simp at h
    have:=uO m.natAbs
    rw[e,h] at this
    simpa[val,dv] using this.symm
   have hm0:m=0:=by omega
   rw[hm0];rfl
  ·exact absurd h h1
 ·rintro ⟨h1,h2,h3⟩
  by_cases h45:s.getD 0 0=45
  ·have hm:mag s=s.drop 1:=by unfold mag;rw[if_pos h45]
   obtain⟨c,t,rfl⟩:∃c t,s=c::t:=by
    cases s with
    | nil=>simp at h45
    | cons c t=>exact⟨c,t,rfl⟩
   simp at h45
   subst h45
   rw[hm] at h1 h2 h3
   simp only[List.drop_succ_cons,List.drop_zero] at h1 h2 h3
   have h4:t.getD 0 0≠48:=fun h=>by
    have:=h3 h
    simp at this
    exact h1 this
   have hv:=qri h2 h1 h4
   have hp:0<10^(t.length-1):=Nat.pow_pos (by omega)
   refine⟨-((val t:Nat):Int),?_⟩
   rw[q8m (by omega)]
   simp only[Int.natAbs_neg,Int.natAbs_natCast]
   rw[←qjI h2 h1 (.inr h4)]
  ·have hm:mag s=s:=by unfold mag;rw[if_neg h45]
   rw[hm] at h1 h2 h3
   refine⟨((val s:Nat):Int),?_⟩
   rw[q1W]
   refine qjI h2 h1 ?_
   by_cases h4:s.getD 0 0=48
   ·exact .inl (h3 h4)
   ·exact .inr h4
open Classical in
noncomputable def qp6(s:List UInt8):Int:=if ∃m:Int,s=tI m then (if (mag s).length≤1024 then 0 else 11) else 3
theorem qyF(s:List UInt8)(hl:s.length≤9223372036854775807):(qu [.s s]).run=some (0,[.s (mag s)]):=by
 rw[qfo]
 cases s with
 | nil=>simp only[STD,zd];rfl
 | cons c t=>
  have h1:(0:Int)<qm (c::t):=by unfold qm;simp only[List.length_cons];omega
  have h2:(1:Int)≤qm (c::t):=by omega
  have hs:sat (c::t) 0=(c.toNat:Int):=by simp[sat]
  have hc:((c.toNat:Int)=45)=(c=45):=by
   simp only[eq_iff_iff]
   exact⟨fun h=>UInt8.toNat_inj.1 (by show c.toNat=45;omega),fun h=>by rw[h];rfl⟩
  simp only[STD,zd,show ¬(c::t=[]) by simp,h1,h2,hs,hc,Int.le_refl,and_self,show (0:Int)≤qm (c::t) by omega,show (0:Int)≤1 by omega]
  unfold mag
  simp only[List.getD_cons_zero]
  by_cases h:c=45
  ·rw[if_pos h,if_pos h];simp[q8i,qm]
  ·rw[if_neg h,if_neg h]
theorem qfr(s:List UInt8)(hl:s.length≤1000000000):(q1U [.s s]).run=some (0,[.i (qp6 s)]):=by
 rw[ql9]
 have hsz:=qyF s (by omega)
 have hml:(mag s).length≤s.length:=by unfold mag;split<;>simp
 obtain⟨j,qs,h1,h2⟩:=vV (S:=kH) (fun k ps=>∃i:Nat,ps=[.s (mag s),.i (i:Int)]∧i+k=(mag s).length∧q3k ((mag s).take i))
  (fun j qs=>(q3k (mag s)∧j=0∧qs=[.s (mag s)])∨(¬q3k (mag s)∧j=1∧qs=[.i 3])) (n:=(mag s).length) (by omega) (fun k ps hk ⟨i,hps,hi,hd⟩=>by
  subst hps
  rw[qia]
  by_cases hlt:i<(mag s).length
  ·have a1:(i:Int)<qm (mag s):=by unfold qm;omega
   have a2:(0:Int)≤(i:Int):=by omega
   have hs:=qep hlt
   have hw:qh .i64 (i:Int) 1=((i+1:Nat):Int):=by rw[zh (by omega)];omega
   by_cases b1:((mag s)[i].toNat:Int)<48
   ·right
    refine⟨1,[.i 3],?_,.inr ⟨fun h=>?_,rfl,rfl⟩⟩
    ·simp only[STD,a1,a2,hs,b1,and_self]
    ·have:=(qcI h hlt).1;omega
   ·by_cases b2:(57:Int)<((mag s)[i].toNat:Int)
    ·right
     refine⟨1,[.i 3],?_,.inr ⟨fun h=>?_,rfl,rfl⟩⟩
     ·simp only[STD,a1,a2,hs,b1,b2,and_self]
     ·have:=(qcI h hlt).2;omega
    ·left
     refine⟨k-1,[.s (mag s),.i ((i+1:Nat):Int)],by omega,?_,i+1,rfl,by omega,?_⟩
     ·simp only[STD,a1,a2,hs,b1,b2,and_self,hw]
     ·rw[List.take_succ_eq_append_getElem hlt]
      exact q4Z.2 ⟨hd,fun c hc=>by simp at hc;subst hc;omega⟩
  ·right
   have a1:¬((i:Int)<qm (mag s)):=by unfold qm;omega
   refine⟨0,[.s (mag s)],?_,.inl ⟨?_,rfl,rfl⟩⟩
   ·simp only[STD,a1]
   ·rwa [List.take_of_length_le (by omega)] at hd) (ps:=[.s (mag s),.i 0]) ⟨0,rfl,by omega,by simpa using qgn⟩
 have hcan:=qoi s
 unfold qp6
 by_cases hne:mag s=[]
 ·rw[if_neg (fun h=>(hcan.1 h).1 hne)]
  simp only[STD,hsz,zd,hne]
 ·have hp:0<(mag s).length:=List.length_pos_iff.2 hne
  have a1:(0:Int)<qm (mag s):=by unfold qm;omega
  have hs:sat (mag s) 0=((mag s)[0].toNat:Int):=qep (i:=0) hp
  have h48:((mag s)[0].toNat:Int)=48↔(mag s).getD 0 0=48:=by
   have:(mag s).getD 0 0=(mag s)[0]:=by simp[List.getD_eq_getElem?_getD,hp]
   rw[this]
   exact⟨fun h=>UInt8.toNat_inj.1 (by show (mag s)[0].toNat=48;omega),fun h=>by rw[h];rfl⟩
  have hl1:(1<qm s)=(1<s.length):=by unfold qm;simp only[eq_iff_iff];omega
  have hl2:(1<qm (mag s))=(1<(mag s).length):=by unfold qm;simp only[eq_iff_iff];omega
  have hl3:(1024<qm (mag s))=¬((mag s).length≤1024):=by unfold qm;simp only[eq_iff_iff];omega
  by_cases hz:((mag s)[0].toNat:Int)=48
  ·by_cases hs1:1<s.length
   ·rw[if_neg (fun h=>by have:=(hcan.1 h).2.2 (h48.1 hz);omega)]
    by_cases hs2:1<(mag s).length
    ·simp only[STD,hsz,zd,hne,a1,hs,hz,hl1,hl2,hs1,hs2,Int.le_refl,and_self]
    ·simp only[STD,hsz,zd,hne,a1,hs,hz,hl1,hl2,hs1,hs2,Int.le_refl,and_self]
   ·have hs2:¬1<(mag s).length:=by omega
    rcases h2 with⟨hd,rfl,rfl⟩|⟨hd,rfl,rfl⟩
    ·rw[if_pos (hcan.2 ⟨hne,hd,fun _=>by omega⟩)]
     simp only[STD,hsz,zd,hne,a1,hs,hz,hl1,hl2,hl3,hs1,hs2,Int.le_refl,and_self,h1,qM h1]
     split<;>simp_all
    ·rw[if_neg (fun h=>hd (hcan.1 h).2.1)]
     simp only[STD,hsz,zd,hne,a1,hs,hz,hl1,hl2,hs1,hs2,Int.le_refl,and_self,h1,qM h1,show ¬(1=0) by omega]
  ·rcases h2 with⟨hd,rfl,rfl⟩|⟨hd,rfl,rfl⟩
   ·rw[if_pos (hcan.2 ⟨hne,hd,fun h=>absurd (h48.2 h) hz⟩)]
    simp only[STD,hsz,zd,hne,a1,hs,hz,hl1,hl2,hl3,Int.le_refl,and_self,h1,qM h1]
    split<;>simp_all
   ·rw[if_neg (fun h=>hd (hcan.1 h).2.1)]
    simp only[STD,hsz,zd,hne,a1,hs,hz,hl1,hl2,Int.le_refl,and_self,h1,qM h1,show ¬(1=0) by omega]
end Go.Eng

namespace Go.Eng
def tQ(q:Rat):List UInt8:=if q.den=1 then tI q.num else tI q.num++47::tN q.den
def dl(n:Nat):Nat:=(tN n).length
def qn(q:Rat):Nat:=nl q.num
def qd(q:Rat):Nat:=dl q.den
theorem qtw{s:List UInt8}(h:q3k s):∀c,c∈s→c≠47:=fun c hc e=>by
 have:=h c hc
 rw[e] at this
 revert this;decide
theorem ql4(m:Int):∀c,c∈tI m→c≠47:=by
 intro c hc
 unfold tI at hc
 split at hc
 ·rcases List.mem_cons.1 hc with rfl|hc
  ·decide
  ·exact qtw (zM _) c hc
 ·exact qtw (zM _) c hc
theorem qrh:∀{s s' t t':List UInt8},(∀c,c∈s→c≠47)→(∀c,c∈s'→c≠47)→s++47::t=s'++47::t'→s=s'∧t=t'
 | [],[],t,t',_,_,h=>⟨rfl,by simpa using h⟩
 | [],c::s',t,t',_,h2,h=>by
  simp only[List.nil_append,List.cons_append,List.cons.injEq] at h
  exact absurd h.1.symm (h2 c List.mem_cons_self)
 | c::s,[],t,t',h1,_,h=>by
  simp only[List.nil_append,List.cons_append,List.cons.injEq] at h
  exact absurd h.1 (h1 c List.mem_cons_self)
 | c::s,c'::s',t,t',h1,h2,h=>by
  simp only[List.cons_append,List.cons.injEq] at h
  obtain⟨e1,e2⟩:=qrh (fun c hc=>h1 c (List.mem_cons_of_mem _ hc)) (fun c hc=>h2 c (List.mem_cons_of_mem _ hc)) h.2
  exact⟨by rw[h.1,e1],e2⟩
theorem q8b{q:Rat}(h:q.den=1):tQ q=tI q.num:=by unfold tQ;rw[if_pos h]
theorem q4H{q:Rat}(h:q.den≠1):tQ q=tI q.num++47::tN q.den:=by unfold tQ;rw[if_neg h]
theorem qyv{a b:Rat}(h:tQ a=tQ b):a=b:=by
 by_cases ha:a.den=1<;>by_cases hb:b.den=1
 ·rw[q8b ha,q8b hb] at h
  exact Rat.ext (qnF h) (ha.trans hb.symm)
 ·rw[q8b ha,q4H hb] at h
  exact absurd rfl (ql4 a.num 47 (by rw[h];simp))
 ·rw[q4H ha,q8b hb] at h
  exact absurd rfl (ql4 b.num 47 (by rw[←h];simp))
 ·rw[q4H ha,q4H hb] at h
  obtain⟨e1,e2⟩:=qrh (ql4 _) (ql4 _) h
  exact Rat.ext (qnF e1) (qlP e2)
theorem qsP(a b:Rat):(tQ a=tQ b)=(a=b):=propext ⟨qyv,fun h=>by rw[h]⟩
theorem qux(m:Int):tQ (m:Rat)=tI m:=q8b (by simp)
theorem qw7(n:Nat):tQ (OfNat.ofNat n:Rat)=tN n:=by
 rw[q8b (by simp)]
 simp only[Rat.num_ofNat]
 exact q1W n
theorem qjS{m n:Int}(h:m.natAbs≤n.natAbs):nl m≤nl n:=q01 h
theorem quR{m n:Nat}(h:m≤n):dl m≤dl n:=q01 h
theorem quA(n:Nat):nl (n:Int)=dl n:=rfl
theorem qu1(m n:Nat):dl (m*n)≤dl m+dl n:=qiF m n
theorem qtL(m n:Int):nl (m-n)≤max (nl m) (nl n)+1:=by
 rw[Int.sub_eq_add_neg]
 have:=qou m (-n)
 rwa [qoB] at this
theorem qcK(N:Int)(D:Nat):nl (mkRat N D).num≤nl N∧dl (mkRat N D).den≤dl D:=by
 rw[Rat.num_mkRat,Rat.den_mkRat]
 by_cases h:D=0
 ·rw[if_pos h,if_pos h,h]
  exact⟨qjS (by simp),by decide⟩
 ·rw[if_neg h,if_neg h]
  exact⟨qjS (Int.natAbs_ediv_le_natAbs _ _),quR (Nat.div_le_self _ _)⟩
theorem qwo(a b:Rat):qn (a*b)≤qn a+qn b:=by
 unfold qn
 rw[Rat.mul_def']
 exact Nat.le_trans (qcK _ _).1 (q2u _ _)
theorem qws(a b:Rat):qd (a*b)≤qd a+qd b:=by
 unfold qd
 rw[Rat.mul_def']
 exact Nat.le_trans (qcK _ _).2 (qu1 _ _)
theorem qxN(a b:Rat):qn (a+b)≤max (qn a+qd b) (qn b+qd a)+1:=by
 unfold qn qd
 rw[Rat.add_def']
 have h1:=(qcK (a.num*b.den+b.num*a.den) (a.den*b.den)).1
 have h2:=qou (a.num*b.den) (b.num*a.den)
 have h3:=q2u a.num b.den
 have h4:=q2u b.num a.den
 rw[quA] at h3 h4
 omega
theorem qyk(a b:Rat):qd (a+b)≤qd a+qd b:=by
 unfold qd
 rw[Rat.add_def']
 exact Nat.le_trans (qcK _ _).2 (qu1 _ _)
theorem qyK(a b:Rat):qn (a-b)≤max (qn a+qd b) (qn b+qd a)+1:=by
 unfold qn qd
 rw[Rat.sub_def']
 have h1:=(qcK (a.num*b.den-b.num*a.den) (a.den*b.den)).1
 have h2:=qtL (a.num*b.den) (b.num*a.den)
 have h3:=q2u a.num b.den
 have h4:=q2u b.num a.den
 rw[quA] at h3 h4
 omega
theorem qyn(a b:Rat):qd (a-b)≤qd a+qd b:=by
 unfold qd
 rw[Rat.sub_def']
 exact Nat.le_trans (qcK _ _).2 (qu1 _ _)
theorem qxT(a:Rat):qn (-a)=qn a:=by unfold qn;rw[Rat.neg_num,qoB]
theorem qhx(a:Rat):0<qn a:=qj2 _
theorem qnA(a:Rat):0<qd a:=qdw _
theorem qyf{a:Rat}(h:a≠0):qn a⁻¹≤qd a:=by
 unfold qn qd
 rw[Rat.num_inv,←quA]
 apply qjS
 rw[Int.natAbs_mul,Int.natAbs_sign_of_ne_zero (by rwa [Ne,Rat.num_eq_zero])]
 simp
theorem qyo{a:Rat}(h:a≠0):qd a⁻¹≤qn a:=by
 unfold qn qd
 rw[Rat.den_inv,if_neg (by rwa [Rat.num_eq_zero])]
 exact Nat.le_refl _
theorem qyh(a:Rat){b:Rat}(h:b≠0):qn (a/b)≤qn a+qd b:=by
 rw[Rat.div_def]
 exact Nat.le_trans (qwo _ _) (Nat.add_le_add_left (qyf h) _)
theorem qye(a:Rat){b:Rat}(h:b≠0):qd (a/b)≤qd a+qn b:=by
 rw[Rat.div_def]
 exact Nat.le_trans (qws _ _) (Nat.add_le_add_left (qyo h) _)
def sgq(q:Rat):Int:=sgn q.num
theorem qaH{m k:Int}(hk:0<k):sgn (m*k)=sgn m:=by
 unfold sgn
 rcases Int.lt_trichotomy m 0 with h|h|h
 ·have:=Int.mul_neg_of_neg_of_pos h hk
  rw[if_pos h,if_pos this]
 ·subst h;simp
 ·have:=Int.mul_pos h hk
  rw[if_neg (by omega),if_neg (by omega),if_neg (by omega),if_neg (by omega)]
theorem qxe(m:Int):sgn (-m)=-sgn m:=by
 unfold sgn
 rcases Int.lt_trichotomy m 0 with h|h|h
 ·rw[if_pos h,if_neg (by omega),if_neg (by omega)];rfl
 ·subst h;rfl
 ·rw[if_pos (by omega),if_neg (by omega),if_neg (by omega)]
theorem qqo{q:Rat}(h:0<q):sgq q=1:=by
 unfold sgq sgn
 have h1:0≤q.num:=Rat.num_nonneg.2 (Rat.le_of_lt h)
 have h2:q.num≠0:=fun e=>by rw[Rat.num_eq_zero] at e;rw[e] at h;exact Rat.lt_irrefl h
 rw[if_neg (by omega),if_neg h2]
theorem qus(q:Rat):sgq (-q)=-sgq q:=by unfold sgq;rw[Rat.neg_num,qxe]
theorem qwE{q:Rat}(h:q<0):sgq q=-1:=by
 have h1:0 < -q:=by grind
 have:=qqo h1
 rw[qus] at this
 omega
theorem q7I(q:Rat):(q<0∧sgq q=-1)∨(q=0∧sgq q=0)∨(0<q∧sgq q=1):=by
 by_cases h1:q<0
 ·exact .inl ⟨h1,qwE h1⟩
 ·by_cases h2:q=0
  ·exact .inr (.inl ⟨h2,by rw[h2];rfl⟩)
  ·exact .inr (.inr ⟨by grind,qqo (by grind)⟩)
theorem qcO(q:Rat):(sgq q≤0)=(q≤0):=by
 rcases q7I q with⟨h,e⟩|⟨h,e⟩|⟨h,e⟩<;>rw[e]<;>simp<;>grind
theorem qlD(q:Rat):(sgq q<0)=(q<0):=by
 rcases q7I q with⟨h,e⟩|⟨h,e⟩|⟨h,e⟩<;>rw[e]<;>simp<;>grind
end Go.Eng

namespace Go.Eng
def sP(s:List UInt8):Nat:=s.findIdx (·==47)
def spn(s:List UInt8):List UInt8:=s.take (sP s)
def spd(s:List UInt8):List UInt8:=if sP s<s.length then s.drop (sP s+1) else [49]
theorem qvu(s:List UInt8):sP s≤s.length:=List.findIdx_le_length
theorem qwJ{s:List UInt8}{i:Nat}(h:i<s.length)(h1:s[i]=47)(h2:∀j (hj:j<i),s[j]≠47):sP s=i:=by
 unfold sP
 rw[List.findIdx_eq h]
 exact⟨by simp[h1],fun j hj=>by simp[h2 j hj]⟩
theorem qmB{s:List UInt8}(h:∀c,c∈s→c≠47):sP s=s.length:=by
 unfold sP
 rw[List.findIdx_eq_length]
 intro x hx
 simpa using h x hx
theorem qtJ{s t:List UInt8}(h:∀c,c∈s→c≠47):sP (s++47::t)=s.length:=by
 apply qwJ (by simp)
 ·simp
 ·intro j hj
  rw[List.getElem_append_left hj]
  exact h _ (List.getElem_mem hj)
theorem qtX(q:Rat):spn (tQ q)=tI q.num:=by
 unfold spn
 by_cases h:q.den=1
 ·rw[q8b h,qmB (ql4 _),List.take_length]
 ·rw[q4H h,qtJ (ql4 _)];simp
theorem qur(q:Rat):spd (tQ q)=tN q.den:=by
 unfold spd
 by_cases h:q.den=1
 ·rw[q8b h,qmB (ql4 _),if_neg (Nat.lt_irrefl _),h];rfl
 ·rw[q4H h,qtJ (ql4 _),if_pos (by simp)];simp
theorem qtl(s:List UInt8)(hl:s.length≤9223372036854775807):(kV [.s s]).run=some (0,[.i (if sP s<s.length then (sP s:Int) else -1)]):=by
 rw[qlc]
 obtain⟨j,qs,h1,h2⟩:=vV (S:=q1m) (fun k ps=>∃i:Nat,ps=[.s s,.i (i:Int)]∧i+k=s.length∧∀j (hj:j<i) (hj2:j<s.length),s[j]≠47)
  (fun j qs=>(¬sP s<s.length∧j=0∧qs=[])∨(sP s<s.length∧j=1∧qs=[.i (sP s:Int)])) (n:=s.length) (by omega) (fun k ps hk ⟨i,hps,hi,hd⟩=>by
  subst hps
  rw[qi9]
  by_cases hlt:i<s.length
  ·have a1:(i:Int)<qm s:=by unfold qm;omega
   have a2:(0:Int)≤(i:Int):=by omega
   have hs:=qep hlt
   have hw:qh .i64 (i:Int) 1=((i+1:Nat):Int):=by rw[zh (by omega)];omega
   by_cases b1:s[i]=47
   ·right
    have e:=qwJ hlt b1 (fun j hj=>hd j hj (by omega))
    have b2:(s[i].toNat:Int)=47:=by rw[b1];rfl
    refine⟨1,[.i (i:Int)],?_,.inr ⟨by rw[e];exact hlt,rfl,by rw[e]⟩⟩
    simp only[STD,a1,a2,hs,b2,and_self]
   ·left
    have b2:¬(s[i].toNat:Int)=47:=fun h=>b1 (UInt8.toNat_inj.1 (by show s[i].toNat=47;omega))
    refine⟨k-1,[.s s,.i ((i+1:Nat):Int)],by omega,?_,i+1,rfl,by omega,?_⟩
    ·simp only[STD,a1,a2,hs,b2,and_self,hw]
    ·intro j hj hj2
     rcases Nat.lt_or_ge j i with h|h
     ·exact hd j h hj2
     ·obtain rfl:j=i:=by omega
      exact b1
  ·right
   have a1:¬((i:Int)<qm s):=by unfold qm;omega
   refine⟨0,[],?_,.inl ⟨?_,rfl,rfl⟩⟩
   ·simp only[STD,a1]
   ·rw[qmB]
    ·omega
    ·intro c hc
     obtain⟨j,hj,rfl⟩:=List.mem_iff_getElem.1 hc
     exact hd j (by omega) hj) (ps:=[.s s,.i 0]) ⟨0,rfl,by omega,fun j hj=>by omega⟩
 rcases h2 with⟨h2,rfl,rfl⟩|⟨h2,rfl,rfl⟩
 ·rw[if_neg h2];simp only[STD,h1,qM h1]
 ·rw[if_pos h2];simp only[STD,h1,qM h1,show ¬(1=0) by omega]
theorem quV(s:List UInt8)(hl:s.length≤9223372036854775807):(yQ [.s s]).run=some (0,[.s (spn s),.s (spd s)]):=by
 rw[ql8]
 have hs:=qtl s hl
 have hle:=qvu s
 unfold spd spn
 by_cases h:sP s<s.length
 ·rw[if_pos h] at hs ⊢
  have a1:¬((sP s:Int)<0):=by omega
  have a2:(sP s:Int)≤qm s:=by unfold qm;omega
  have hw:qh .i64 (sP s:Int) 1=((sP s+1:Nat):Int):=by rw[zh (by omega)];omega
  have a3:((sP s+1:Nat):Int)≤qm s:=by unfold qm;omega
  have e1:q8i s 0 (sP s:Int)=s.take (sP s):=by simp[q8i]
  have e2:q8i s ((sP s+1:Nat):Int) (qm s)=s.drop (sP s+1):=by
   unfold q8i qm
   simp only[Int.toNat_natCast,List.take_length]
  simp only[STD,hs,a1,a2,hw,a3,e1,e2,show (0:Int)≤(sP s:Int) by omega,show (0:Int)≤((sP s+1:Nat):Int) by omega,show (0:Int)≤qm s by unfold qm;omega,Int.le_refl,and_self]
 ·rw[if_neg h] at hs ⊢
  have e:s.take (sP s)=s:=List.take_of_length_le (by omega)
  rw[e]
  simp only[STD,hs,show (-1:Int)<0 by omega]
theorem qwD(q:Rat):(tQ q).length≤qn q+qd q+2:=by
 have h1:=qrp q.num
 unfold qn qd nl dl
 by_cases h:q.den=1
 ·rw[q8b h];omega
 ·rw[q4H h];simp;omega
theorem qva(q:Rat)(hn:qn q≤400000)(hd:qd q≤400000):(yQ [.s (tQ q)]).run=some (0,[.s (tI q.num),.s (tI (q.den:Int))]):=by
 have:=qwD q
 rw[quV _ (by omega),qtX,qur,q1W]
theorem q6Q(n:Nat):(tN n=[49])=(n=1):=by
 have:tN 1=[49]:=rfl
 rw[←this];exact propext ⟨fun h=>qlP h,fun h=>by rw[h]⟩
def sm(K:Nat)(q:Rat):Prop:=qn q≤K∧qd q≤K
theorem qwc(a:Rat):(0:Int)<(a.den:Int):=by have:=a.den_nz;omega
theorem qkR{a:Rat}(ha:sm 100000 a):(q0s [.s (tQ a)]).run=some (0,[.i (sgq a)]):=by
 rw[qiU]
 obtain⟨h1,h2⟩:=ha
 have hP:=qgm a.num 0 (by unfold qn at h1;omega) (by decide)
 rw[Int.sub_zero,show tI 0=[48] from rfl] at hP
 simp only[STD,qva a (by omega) (by omega),hP]
 rfl
def qar(a b c:Rat):Int:=if 0≤sgq a*(sgq b*sgq c) then (if sgq a=0 then sgq b*sgq c else sgq a) else sgq a*sgq (a*a-b*b*c)
theorem qcb(q:Rat):-1≤sgq q∧sgq q≤1:=by rcases q7I q with⟨_,e⟩|⟨_,e⟩|⟨_,e⟩<;>rw[e]<;>decide
theorem qyD{x y:Int}(hx:-1≤x∧x≤1)(hy:-1≤y∧y≤1):-1≤x*y∧x*y≤1:=by
 have:=qyN (A:=1) (B:=1) hx.1 hx.2 hy.1 hy.2
 omega
theorem qgx{x y:Int}(hx:-1≤x∧x≤1)(hy:-1≤y∧y≤1):kK .i64 x y=x*y:=q6V (by have:=qyD hx hy;omega)
theorem qx4{K L:Nat}{a:Rat}(ha:sm K a)(h:K≤L):sm L a:=⟨Nat.le_trans ha.1 h,Nat.le_trans ha.2 h⟩
end Go.Eng

namespace Go.Eng
def mv:List Int→Int
 | []=>0
 | x::l=>x+1000000000*mv l
def pB(n:Nat):Int:=1000000000^n
theorem q3u:pB 0=1:=rfl
theorem q7G(n:Nat):pB (n+1)=pB n*1000000000:=Int.pow_succ _ _
theorem q8n:∀n,0<pB n
 | 0=>by decide
 | n+1=>by rw[q7G];have:=q8n n;omega
theorem qyC(m n:Nat):pB (m+n)=pB m*pB n:=Int.pow_add _ _ _
theorem q8W{m n:Nat}(h:m≤n):pB m≤pB n:=by
 obtain⟨k,rfl⟩:∃k,n=m+k:=⟨n-m,by omega⟩
 induction k with
 | zero=>simp
 | succ k ih=>
  have h1:=ih (by omega)
  rw[show m+(k+1)=(m+k)+1 by omega,q7G]
  have:=q8n (m+k)
  omega
def dgs(l:List Int):Prop:=∀x,x∈l→0≤x∧x<1000000000
theorem qqL:∀(l:List Int) (j:Nat) (h:j<l.length) (y:Int),mv (l.set j y)=mv l+(y-l[j])*pB j
 | [],j,h,_=>by simp at h
 | x::l,0,_,y=>by simp only[List.set_cons_zero,mv,List.getElem_cons_zero,q3u];omega
 | x::l,j+1,h,y=>by
  have ih:=qqL l j (by simpa using h) y
  simp only[List.set_cons_succ,mv,List.getElem_cons_succ,q7G]
  rw[ih]
  grind
theorem qrH:∀(l:List Int) (n:Nat),dgs l→(∀i,n≤i→l.getD i 0=0)→0≤mv l∧mv l<pB n
 | [],n,_,_=>⟨Int.le_refl _,q8n n⟩
 | x::l,0,hd,hz=>by
  have ih:=qrH l 0 (fun y hy=>hd y (List.mem_cons_of_mem _ hy)) (fun i _=>by have:=hz (i+1) (by omega);simpa using this)
  have hx:x=0:=by simpa using hz 0 (by omega)
  rw[q3u] at ih ⊢
  simp only[mv];omega
 | x::l,n+1,hd,hz=>by
  have ih:=qrH l n (fun y hy=>hd y (List.mem_cons_of_mem _ hy)) (fun i hi=>by have:=hz (i+1) (by omega);simpa using this)
  have hx:=hd x List.mem_cons_self
  rw[q7G]
  simp only[mv]
  generalize pB n=p at *
  omega
theorem qyx:∀(l:List Int) (j:Nat) (h:j<l.length),dgs l→l[j]≠0→pB j≤mv l
 | [],j,h,_,_=>by simp at h
 | x::l,0,_,hd,hx=>by
  have h1:=hd x List.mem_cons_self
  have h2:=(qrH l l.length (fun y hy=>hd y (List.mem_cons_of_mem _ hy)) (fun i hi=>by simp[List.getD_eq_getElem?_getD,hi])).1
  simp only[List.getElem_cons_zero] at hx
  simp only[mv,q3u];omega
 | x::l,j+1,h,hd,hx=>by
  have ih:=qyx l j (by simpa using h) (fun y hy=>hd y (List.mem_cons_of_mem _ hy)) (by simpa using hx)
  have h1:=hd x List.mem_cons_self
  rw[q7G]
  simp only[mv];omega
theorem qqP:∀(s t:List Int),mv (s++t)=mv s+pB s.length*mv t
 | [],t=>by simp[mv,q3u]
 | x::s,t=>by
  simp only[List.cons_append,mv,List.length_cons,q7G]
  rw[qqP s t];grind
theorem qaz(n:Nat):mv (List.replicate n 0)=0:=by
 induction n with
 | zero=>rfl
 | succ n ih=>simp[List.replicate_succ,mv,ih]
theorem q8S{l:List Int}{i:Nat}(h:i<l.length):mv (l.drop i)=l[i]+1000000000*mv (l.drop (i+1)):=by
 rw[List.drop_eq_getElem_cons h];rfl
theorem v7{l:List Int}{n i:Nat}(hd:dgs l)(hz:∀i,n≤i→l.getD i 0=0)(hi:n≤i):mv (l.drop i)=0:=by
 have:=qrH (l.drop i) 0 (fun x hx=>hd x (List.mem_of_mem_drop hx)) (fun j _=>by
  have:=hz (i+j) (by omega)
  simpa[List.getD_eq_getElem?_getD] using this)
 rw[q3u] at this
 omega
structure WOK (n:Nat) (l:List Int):Prop where
 len:l.length=232
 le:n≤232
 dig:dgs l
 z:∀i,n≤i→l.getD i 0=0
def nrm(n:Nat)(l:List Int):Prop:=n=0∨l.getD (n-1) 0≠0
theorem WOK.bd{n:Nat}{l:List Int}(h:WOK n l):0≤mv l∧mv l<pB n:=qrH l n h.dig h.z
theorem WOK.lo{n:Nat}{l:List Int}(h:WOK n l)(hn:nrm n l)(h0:n≠0):pB (n-1)≤mv l:=by
 have h1:=h.le
 have h2:=h.len
 rcases hn with hn|hn
 ·exact absurd hn h0
 ·refine qyx l (n-1) (by omega) h.dig ?_
  rwa [vX (by omega)] at hn
theorem qoa(N i:Nat):(List.replicate N (0:Int)).getD i 0=0:=by
 rw[List.getD_eq_getElem?_getD,List.getElem?_replicate];split<;>rfl
theorem quw(N:Nat):dgs (List.replicate N 0):=fun x hx=>by
 have:=(List.mem_replicate.1 hx).2
 omega
theorem WOK.zero:WOK 0 (List.replicate 232 0):=
 ⟨List.length_replicate,by omega,quw 232,fun i _=>qoa 232 i⟩
theorem WOK.get{n:Nat}{l:List Int}(h:WOK n l)(i:Nat):0≤l.getD i 0∧l.getD i 0<1000000000:=by
 rcases Nat.lt_or_ge i l.length with hi|hi
 ·rw[vX hi];exact h.dig _ (List.getElem_mem hi)
 ·simp[List.getD_eq_getElem?_getD,hi]
theorem WOK.setW{n:Nat}{l:List Int}(h:WOK n l){j:Nat}{y:Int}(hj:j<232)(hy:0≤y∧y<1000000000):WOK (max n (j+1)) (l.set j y):=by
 have h1:=h.le
 refine⟨by simp[h.len],by omega,fun x hx=>?_,fun i hi=>?_⟩
 ·rcases List.mem_or_eq_of_mem_set hx with hx|rfl
  ·exact h.dig x hx
  ·exact hy
 ·have:=h.z i (by omega)
  rw[List.getD_eq_getElem?_getD,List.getElem?_set_ne (by omega),←List.getD_eq_getElem?_getD]
  exact this
theorem q3h(l:List Int)(i:Nat):cI (rI l) (i:Int) 0=l.getD i 0:=by rw[qxi,Int.toNat_natCast]
theorem qee(l:List Int)(i:Nat)(v:Int):q9X (rI l) (i:Int) 0 [.i v]=rI (l.set i v):=by rw[qoS,Int.toNat_natCast]
theorem qfM{n:Nat}{l:List Int}(h:WOK n l)(b:Bool):∃m,(qv [.b b,.i (n:Int),.r (rI l)]).run=some (0,[.b b,.i ((m:Nat):Int),.r (rI l)])∧WOK m l∧nrm m l:=by
 rw[qcw]
 have h232:=h.le
 obtain⟨j,qs,h1,rfl,m,rfl,h3,h4⟩:=vV (S:=vJ) (fun k ps=>ps=[.b b,.i (k:Int),.r (rI l)]∧WOK k l)
  (fun j qs=>j=0∧∃m:Nat,qs=[.b b,.i (m:Int),.r (rI l)]∧WOK m l∧nrm m l) (n:=n) (by omega) (fun k ps hk ⟨hps,hw⟩=>by
  subst hps
  rw[qa8]
  have hk2:=hw.le
  by_cases h0:k=0
  ·right
   refine⟨0,_,?_,rfl,k,rfl,hw,.inl h0⟩
   simp only[STD,h0]
   rfl
  ·have hs:qz .i64 (k:Int) 1=((k-1:Nat):Int):=by rw[yl (by omega)];omega
   have a1:(0:Int)<(k:Int):=by omega
   have a2:(0:Int)≤((k-1:Nat):Int)∧((k-1:Nat):Int)<232:=by omega
   by_cases hz:l.getD (k-1) 0=0
   ·left
    refine⟨k-1,[.b b,.i ((k-1:Nat):Int),.r (rI l)],by omega,?_,rfl,hw.len,by omega,hw.dig,fun i hi=>?_⟩
    ·simp only[STD,a1,hs,a2,q3h,hz,and_self]
    ·rcases Nat.eq_or_lt_of_le hi with e|e
     ·rw[←e];exact hz
     ·exact hw.z i (by omega)
   ·right
    refine⟨0,[.b b,.i (k:Int),.r (rI l)],?_,rfl,k,rfl,hw,.inr hz⟩
    simp only[STD,a1,hs,a2,q3h,hz,and_self]) (ps:=[.b b,.i (n:Int),.r (rI l)]) ⟨rfl,h⟩
 exact⟨m,by simp only[STD,h1],h3,h4⟩
theorem qyA(s:Int):∃q r:Int,s.tdiv 1000000000=q∧s=q*1000000000+r∧(0≤s→0≤r)∧(s≤0→r≤0)∧-1000000000<r∧r<1000000000:=by
 obtain⟨h1,h2,h3,h4⟩:=qgw s (show (1000000000:Int)≠0 by decide)
 refine⟨_,q4g s 1000000000,rfl,by omega,h3,h4,by omega,by omega⟩
theorem qsO{f up rest:Int}{i n j:Nat}{l ly:List Int}{bx b2:Bool}{ny:Nat}{S:Int}(hj:((j:Nat):Int)=qh .i64 (i:Int) up)(hj2:j<232)(hw:WOK n l)(hin:i<233)
  (hS:S=if i<ny then l.getD j 0+rest+f*ly.getD i 0 else l.getD j 0+rest) (hr:-1000000000≤rest∧rest≤1000000000) (hfy:-999999999999999999≤f*ly.getD i 0∧f*ly.getD i 0≤999999999999999999) (hny:ny≤232)
  (hgo:i<ny∨rest≠0) :
  ∃q s:Int,S=q*1000000000+s∧0≤s∧s<1000000000 ∧
   (vw [.i f,.i up,.i rest,.i (i:Int),.b bx,.i (n:Int),.r (rI l),.b b2,.i (ny:Int),.r (rI ly)]).run=some (0,[.i f,.i up,.i q,.i ((i+1:Nat):Int),.b bx,.i ((max n (j+1):Nat):Int),.r (rI (l.set j s)),.b b2,.i (ny:Int),.r (rI ly)]):=by
 have hg:=hw.get j
 obtain⟨q,r,e1,e2,e3,e4,e5,e6⟩:=qyA S
 have hSb:-1000000000999999999≤S∧S≤1000000001999999998:=by rw[hS];split<;>omega
 have w1:jP .i64 S 1000000000=q:=by
  unfold jP
  rw[e1]
  unfold IntKind.wrap
  simp[IntKind.signed,IntKind.bits];omega
 have w2:kK .i64 q 1000000000=q*1000000000:=q6V (by omega)
 have w3:qz .i64 S (q*1000000000)=r:=by rw[yl (by omega)];omega
 have w4:qh .i64 (l.getD j 0) rest=l.getD j 0+rest:=zh (by omega)
 have w5:qh .i64 (i:Int) 1=((i+1:Nat):Int):=by rw[zh (by omega)];omega
 have w6:qh .i64 (j:Int) 1=((j+1:Nat):Int):=by rw[zh (by omega)];omega
 have w7:qaM (n:Int) ((j+1:Nat):Int)=((max n (j+1):Nat):Int):=qnk _ _
 have a1:(0:Int)≤(j:Int)∧(j:Int)<232:=by omega
 have hw8:r<0→qh .i64 r 1000000000=r+1000000000:=fun _=>zh (by omega)
 have hw9:r<0→qz .i64 q 1=q-1:=fun _=>yl (by omega)
 rw[q5w]
 by_cases hi:i<ny
 ·rw[if_pos hi] at hS
  have a2:(i:Int)<(ny:Int):=by omega
  have a3:(0:Int)≤(i:Int)∧(i:Int)<232:=by omega
  have w10:kK .i64 f (ly.getD i 0)=f*ly.getD i 0:=q6V (by omega)
  have w11:qh .i64 (l.getD j 0+rest) (f*ly.getD i 0)=S:=by rw[zh (by omega),hS]
  by_cases hneg:r<0
  ·refine⟨q-1,r+1000000000,by omega,by omega,by omega,?_⟩
   simp only[STD,a2,←hj,a1,a3,q3h,w4,w10,w11,w1,w2,w3,hneg,hw8 hneg,hw9 hneg,w5,w6,w7,qee,and_self]
  ·refine⟨q,r,by omega,by omega,by omega,?_⟩
   simp only[STD,a2,←hj,a1,a3,q3h,w4,w10,w11,w1,w2,w3,hneg,w5,w6,w7,qee,and_self]
 ·rw[if_neg hi] at hS
  have hr0:rest≠0:=hgo.resolve_left hi
  have a2:¬(i:Int)<(ny:Int):=by omega
  rw[←hS] at w4
  by_cases hneg:r<0
  ·refine⟨q-1,r+1000000000,by omega,by omega,by omega,?_⟩
   simp only[STD,a2,hr0,←hj,a1,q3h,w4,w1,w2,w3,hneg,hw8 hneg,hw9 hneg,w5,w6,w7,qee,and_self]
  ·refine⟨q,r,by omega,by omega,by omega,?_⟩
   simp only[STD,a2,hr0,←hj,a1,q3h,w4,w1,w2,w3,hneg,w5,w6,w7,qee,and_self]
theorem qjZ{f:Int}{up nx ny:Nat}{lx ly:List Int}(hx:WOK nx lx)(hy:WOK ny ly)(hf:-999999999≤f∧f≤999999999)(hup:ny+up≤232){T:Int}(hT:T=mv lx+f*mv ly*pB up)(h0:0≤T)(h1:T<pB 232)(bx b2:Bool) :
  ∃(n:Nat) (l:List Int),(qF [.i f,.i (up:Int),.b bx,.i (nx:Int),.r (rI lx),.b b2,.i (ny:Int),.r (rI ly)]).run=some (0,[.b bx,.i (n:Int),.r (rI l),.b b2,.i (ny:Int),.r (rI ly)])∧WOK n l∧nrm n l∧mv l=T:=by
 rw[qe3]
 have hny:=hy.le
 obtain⟨j,qs,g1,rfl,n,l,rfl,g3,g4⟩:=vV (S:=vw) (fun k ps=>∃(i n:Nat) (rest:Int) (l:List Int),ps=[.i f,.i (up:Int),.i rest,.i (i:Int),.b bx,.i (n:Int),.r (rI l),.b b2,.i (ny:Int),.r (rI ly)] ∧
   i+k=300∧i≤232∧WOK n l∧-1000000000≤rest∧rest≤1000000000∧mv l+rest*pB (i+up)+f*mv (ly.drop i)*pB (i+up)=T)
  (fun j qs=>j=0∧∃(n:Nat) (l:List Int),qs=[.b bx,.i (n:Int),.r (rI l),.b b2,.i (ny:Int),.r (rI ly)]∧WOK n l∧mv l=T) (n:=300) (by omega) (fun k ps hk ⟨i,n,rest,l,hps,hik,hi,hw,hr1,hr2,hv⟩=>by
  subst hps
  have hg:=hy.get i
  have hfy:=qyN (A:=999999999) (B:=999999999) hf.1 hf.2 (show -(999999999:Int)≤ly.getD i 0 by omega) (show ly.getD i 0≤999999999 by omega)
  have hbd:=hw.bd
  have hn232:=hw.le
  by_cases hgo:i<ny∨rest≠0
  ·left
   have hj:i+up<232:=by
    rcases Nat.lt_or_ge i ny with h|h
    ·omega
    ·rcases Nat.lt_or_ge (i+up) 232 with h2|h2
     ·exact h2
     ·exfalso
      have hr0:=hgo.resolve_left (by omega)
      rw[v7 hy.dig hy.z h] at hv
      have hP:=q8W h2
      have hlt:=q8W hn232
      simp only[Int.mul_zero,Int.zero_mul,Int.add_zero] at hv
      generalize pB (i+up)=P at *
      rcases Int.lt_or_lt_of_ne hr0 with h3|h3
      ·have:rest*P≤-1*P:=Int.mul_le_mul_of_nonneg_right (by omega) (by have:=q8n 232;omega)
       omega
      ·have:1*P≤rest*P:=Int.mul_le_mul_of_nonneg_right (by omega) (by have:=q8n 232;omega)
       omega
   have hjw:(((i+up:Nat)):Int)=qh .i64 (i:Int) (up:Int):=by rw[zh (by omega)];omega
   obtain⟨q,s,s1,s2,s3,s4⟩:=qsO (bx:=bx) (b2:=b2) (f:=f) (ly:=ly) hjw hj hw (by omega) rfl ⟨hr1,hr2⟩ (by omega) hny hgo
   refine⟨k-1,_,by omega,s4,i+1,_,q,_,rfl,by omega,by omega,hw.setW hj ⟨s2,s3⟩,?_,?_,?_⟩
   ·have hgl:=hw.get (i+up)
    split at s1<;>omega
   ·have hgl:=hw.get (i+up)
    split at s1<;>omega
   ·have hjl:i+up<l.length:=by rw[hw.len];exact hj
    rw[qqL l (i+up) hjl,←hv,show i+1+up=(i+up)+1 by omega,q7G]
    rw[vX hjl] at s1
    have hil:i<ly.length:=by rw[hy.len];omega
    rw[q8S hil]
    rw[vX hil] at s1
    generalize pB (i+up)=P at *
    generalize l[i+up]=d at *
    by_cases hiny:i<ny
    ·rw[if_pos hiny] at s1
     generalize ly[i]=y at *
     generalize mv (ly.drop (i+1))=m at *
     grind
    ·rw[if_neg hiny] at s1
     have z1:ly[i]=0:=by rw[←vX hil];exact hy.z i (by omega)
     rw[z1,v7 hy.dig hy.z (show ny≤i+1 by omega)]
     grind
  ·right
   have c1:¬i<ny:=fun h=>hgo (.inl h)
   have c2:rest=0:=Decidable.byContradiction fun h=>hgo (.inr h)
   refine⟨0,[.b bx,.i (n:Int),.r (rI l),.b b2,.i (ny:Int),.r (rI ly)],?_,rfl,n,l,rfl,hw,?_⟩
   ·rw[q5w]
    have a2:¬(i:Int)<(ny:Int):=by omega
    simp only[STD,a2,c2]
   ·rw[v7 hy.dig hy.z (by omega),c2] at hv
    simp only[Int.mul_zero,Int.zero_mul,Int.add_zero] at hv
    exact hv) (ps:=[.i f,.i (up:Int),.i 0,.i 0,.b bx,.i (nx:Int),.r (rI lx),.b b2,.i (ny:Int),.r (rI ly)])
  ⟨0,nx,0,lx,rfl,by omega,by omega,hx,by omega,by omega,by simp[hT]⟩
 obtain⟨m,t1,t2,t3⟩:=qfM g3 bx
 exact⟨m,l,by simp only[STD,g1,t1],t2,t3,g4⟩
end Go.Eng

namespace Go.Eng
theorem q87(l:List Int)(j:Nat)(h:j≤l.length):mv l=mv (l.take j)+pB j*mv (l.drop j):=by
 have:=qqP (l.take j) (l.drop j)
 rw[List.take_append_drop,List.length_take,Nat.min_eq_left h] at this
 exact this
theorem qvE{l:List Int}(h:dgs l)(j:Nat):dgs (l.take j):=fun x hx=>h x (List.mem_of_mem_take hx)
theorem q6U{l:List Int}(h:dgs l)(j:Nat):0≤mv (l.take j)∧mv (l.take j)<pB j:=
 qrH (l.take j) j (qvE h j) fun i hi=>by
  rw[List.getD_eq_getElem?_getD,List.getElem?_eq_none (by simp;omega)];rfl
theorem qhK{l:List Int}{i:Nat}(h:i<l.length):mv (l.take (i+1))=mv (l.take i)+l[i]*pB i:=by
 rw[List.take_succ_eq_append_getElem h,qqP,List.length_take,Nat.min_eq_left (by omega)]
 simp only[mv]
 grind
theorem WOK.mono{n m:Nat}{l:List Int}(h:WOK n l)(hm:n≤m)(h2:m≤232):WOK m l:=⟨h.len,h2,h.dig,fun i hi=>h.z i (by omega)⟩
theorem qge{n:Nat}{l:List Int}(h:WOK n l)(hn:nrm n l):(n=0)=(mv l=0):=by
 apply propext
 constructor
 ·intro h0
  have:=h.bd
  rw[h0,q3u] at this;omega
 ·intro h0
  rcases Nat.eq_zero_or_pos n with h1|h1
  ·exact h1
  ·have:=h.lo hn (by omega)
   have:=q8n (n-1)
   omega
theorem qyT{n m:Nat}{l k:List Int}(h:WOK n l)(hn:nrm n l)(h2:WOK m k)(hle:mv l≤mv k):n≤m:=by
 rcases Nat.lt_or_ge m n with h3|h3
 ·exfalso
  have h4:=h.lo hn (by omega)
  have h5:=h2.bd.2
  have h6:=q8W (show m≤n-1 by omega)
  omega
 ·exact h3
theorem qr1{nx ny:Nat}{lx ly:List Int}(hx:WOK nx lx)(hnx:nrm nx lx)(hy:WOK ny ly)(hny:nrm ny ly)(bx b2:Bool) :
  ∃r:Int,(zu [.b bx,.i (nx:Int),.r (rI lx),.b b2,.i (ny:Int),.r (rI ly)]).run=some (0,[.i r,.b bx,.i (nx:Int),.r (rI lx),.b b2,.i (ny:Int),.r (rI ly)])∧((0≤r)=(mv ly≤mv lx)):=by
 rw[qdb]
 have h1:=hx.le
 have h2:=hy.le
 by_cases hne:nx=ny
 ·subst hne
  have hs:qz .i64 (nx:Int) 1=(nx:Int)-1:=yl (by omega)
  obtain⟨j,qs,g1,g2⟩:=vV (S:=j6) (fun k ps=>ps=[.i ((k:Int)-1),.b bx,.i (nx:Int),.r (rI lx),.b b2,.i (nx:Int),.r (rI ly)]∧k≤nx∧mv (lx.drop k)=mv (ly.drop k))
   (fun j qs=>(j=0∧qs=[.b bx,.i (nx:Int),.r (rI lx),.b b2,.i (nx:Int),.r (rI ly)]∧mv lx=mv ly)∨(j=1∧∃r:Int,qs=[.i r,.b bx,.i (nx:Int),.r (rI lx),.b b2,.i (nx:Int),.r (rI ly)]∧((0≤r)=(mv ly≤mv lx)))) (n:=nx) (by omega) (fun k ps hk ⟨hps,hkn,hd⟩=>by
   subst hps
   rw[qbr]
   by_cases h0:k=0
   ·right
    refine⟨0,_,?_,.inl ⟨rfl,rfl,?_⟩⟩
    ·have a:¬(0:Int)≤(k:Int)-1:=by omega
     simp only[STD,a]
    ·rw[h0] at hd;simpa using hd
   ·obtain⟨i,rfl⟩:∃i,k=i+1:=⟨k-1,by omega⟩
    have e:(((i+1:Nat):Int)-1)=(i:Int):=by omega
    rw[e]
    have a1:(0:Int)≤(i:Int):=by omega
    have a2:(i:Int)<232:=by omega
    have gx:=hx.get i
    have gy:=hy.get i
    have hxl:i<lx.length:=by rw[hx.len];omega
    have hyl:i<ly.length:=by rw[hy.len];omega
    by_cases hc:lx.getD i 0=ly.getD i 0
    ·left
     refine⟨i,[.i ((i:Int)-1),.b bx,.i (nx:Int),.r (rI lx),.b b2,.i (nx:Int),.r (rI ly)],by omega,?_,rfl,by omega,?_⟩
     ·have w:qz .i64 (i:Int) 1=(i:Int)-1:=yl (by omega)
      simp only[STD,a1,a2,and_self,q3h,hc,w]
     ·rw[q8S hxl,q8S hyl,hd]
      rw[vX hxl,vX hyl] at hc
      rw[hc]
    ·right
     have w:qz .i64 (lx.getD i 0) (ly.getD i 0)=lx.getD i 0-ly.getD i 0:=yl (by omega)
     refine⟨1,[.i (lx.getD i 0-ly.getD i 0),.b bx,.i (nx:Int),.r (rI lx),.b b2,.i (nx:Int),.r (rI ly)],?_,.inr ⟨rfl,_,rfl,?_⟩⟩
     ·simp only[STD,a1,a2,and_self,q3h,hc,w]
     ·have sx:=q87 lx i (by omega)
      have sy:=q87 ly i (by omega)
      rw[q8S hxl] at sx
      rw[q8S hyl] at sy
      have tx:=q6U hx.dig i
      have ty:=q6U hy.dig i
      rw[vX hxl,vX hyl] at hc ⊢
      rw[hd] at sx
      have hp:=q8n i
      generalize pB i=P at *
      generalize lx[i]=u at *
      generalize ly[i]=v at *
      generalize mv (ly.drop (i+1))=w at *
      have e1:P*(u+1000000000*w)=P*u+P*(1000000000*w):=Int.mul_add _ _ _
      have e2:P*(v+1000000000*w)=P*v+P*(1000000000*w):=Int.mul_add _ _ _
      have e3:P*(u-v)=P*u-P*v:=Int.mul_sub _ _ _
      apply propext
      rcases Int.lt_or_lt_of_ne (show u-v≠0 by omega) with h|h
      ·have:P*(u-v)≤P*(-1):=Int.mul_le_mul_of_nonneg_left (by omega) (by omega)
       constructor
       ·intro;omega
       ·intro;omega
      ·have:P*1≤P*(u-v):=Int.mul_le_mul_of_nonneg_left (by omega) (by omega)
       constructor
       ·intro;omega
       ·intro;omega) (ps:=[.i ((nx:Int)-1),.b bx,.i (nx:Int),.r (rI lx),.b b2,.i (nx:Int),.r (rI ly)])
   ⟨rfl,Nat.le_refl _,by rw[v7 hx.dig hx.z (Nat.le_refl _),v7 hy.dig hy.z (Nat.le_refl _)]⟩
  rcases g2 with⟨rfl,rfl,g2⟩|⟨rfl,r,rfl,g2⟩
  ·refine⟨0,?_,?_⟩
   ·simp only[STD,hs,g1,qM g1]
   ·apply propext;simp;omega
  ·refine⟨r,?_,g2⟩
   simp only[STD,hs,g1,qM g1,show ¬(1=0) by omega]
 ·have hs:qz .i64 (nx:Int) (ny:Int)=(nx:Int)-(ny:Int):=yl (by omega)
  refine⟨(nx:Int)-(ny:Int),?_,?_⟩
  ·have a:¬(nx:Int)=(ny:Int):=by omega
   simp only[STD,a,hs]
  ·apply propext
   have b1:=hx.bd
   have b2:=hy.bd
   rcases Nat.lt_or_gt_of_ne hne with h|h
   ·have:=hy.lo hny (by omega)
    have:=q8W (show nx≤ny-1 by omega)
    constructor
    ·intro;omega
    ·intro;omega
   ·have:=hx.lo hnx (by omega)
    have:=q8W (show ny≤nx-1 by omega)
    constructor
    ·intro;omega
    ·intro;omega
def sv(b:Bool)(l:List Int):Int:=if b then -mv l else mv l
theorem qwp{nx ny:Nat}{lx ly:List Int}(hx:WOK nx lx)(hnx:nrm nx lx)(hy:WOK ny ly)(hny:nrm ny ly)(hb:mv lx+mv ly<pB 232)(bx b2:Bool) :
  ∃(b:Bool) (n:Nat) (l:List Int),(zN [.b bx,.i (nx:Int),.r (rI lx),.b b2,.i (ny:Int),.r (rI ly)]).run=some (0,[.b b,.i (n:Int),.r (rI l),.b b2,.i (ny:Int),.r (rI ly)])∧WOK n l∧nrm n l∧sv b l=sv bx lx+sv b2 ly:=by
 rw[qf0]
 have h1:=hx.bd
 have h2:=hy.bd
 have l1:=hx.le
 have l2:=hy.le
 by_cases hs:bx=b2
 ·subst hs
  obtain⟨n,l,g1,g2,g3,g4⟩:=qjZ (f:=1) (up:=0) hx hy (by omega) (by omega) (T:=mv lx+mv ly) (by rw[q3u];omega) (by omega) hb bx bx
  refine⟨bx,n,l,?_,g2,g3,?_⟩
  ·simp only[STD,show ((0:Nat):Int)=0 from rfl] at g1 ⊢
   simp only[STD,g1]
  ·unfold sv;rw[g4];cases bx<;>simp<;>omega
 ·obtain⟨r,r1,r2⟩:=qr1 hx hnx hy hny bx b2
  by_cases hr:mv ly≤mv lx
  ·have hr':0≤r:=by rw[r2];exact hr
   obtain⟨n,l,g1,g2,g3,g4⟩:=qjZ (f:=-1) (up:=0) hx hy (by omega) (by omega) (T:=mv lx-mv ly) (by rw[q3u];omega) (by omega) (by omega) bx b2
   refine⟨bx,n,l,?_,g2,g3,?_⟩
   ·simp only[show ((0:Nat):Int)=0 from rfl] at g1
    simp only[STD,hs,r1,hr',g1]
   ·unfold sv;rw[g4];cases bx<;>cases b2<;>simp_all<;>omega
  ·have hr':¬0≤r:=by rw[r2];exact hr
   obtain⟨n,l,g1,g2,g3,g4⟩:=qjZ (f:=-1) (up:=0) hy hx (by omega) (by omega) (T:=mv ly-mv lx) (by rw[q3u];omega) (by omega) (by omega) b2 bx
   refine⟨b2,n,l,?_,g2,g3,?_⟩
   ·simp only[show ((0:Nat):Int)=0 from rfl] at g1
    simp only[STD,hs,r1,hr',g1]
   ·unfold sv;rw[g4];cases bx<;>cases b2<;>simp_all<;>omega
theorem qu0{x y:Int}{m n:Nat}(h0:0≤x)(h1:x<pB m)(h2:0≤y)(h3:y≤pB n):x*y<pB (m+n)∨y=0:=by
 rcases Int.lt_or_eq_of_le h2 with h|h
 ·left
  rw[qyC]
  have e1:x*y<pB m*y:=Int.mul_lt_mul_of_pos_right h1 h
  have e2:pB m*y≤pB m*pB n:=Int.mul_le_mul_of_nonneg_left h3 (by omega)
  omega
 ·exact .inr h.symm
theorem qwT{nx ny:Nat}{lx ly:List Int}(hx:WOK nx lx)(hy:WOK ny ly)(hb:nx+ny≤232)(bx b2:Bool) :
  ∃(n:Nat) (l:List Int),(yT [.b bx,.i (nx:Int),.r (rI lx),.b b2,.i (ny:Int),.r (rI ly)]).run=some (0,[.b bx,.i (nx:Int),.r (rI lx),.b b2,.i (ny:Int),.r (rI ly),.b (!(Go.Eng.beq bx b2)),.i (n:Int),.r (rI l)])∧WOK n l∧nrm n l∧mv l=mv lx*mv ly:=by
 rw[qeI]
 have hbx:=hx.bd
 have e0:q21 232 [.i 0]=rI (List.replicate 232 0):=qeD 232 0
 obtain⟨j,qs,g1,rfl,n,l,rfl,g2,g3,g4⟩:=vV (S:=jz) (fun k ps=>∃(i n:Nat) (l:List Int),ps=[.i (ny:Int),.i (i:Int),.b bx,.i (nx:Int),.r (rI lx),.b b2,.i (ny:Int),.r (rI ly),.b (!(Go.Eng.beq bx b2)),.i (n:Int),.r (rI l)] ∧
   i+k=ny∧WOK n l∧nrm n l∧mv l=mv lx*mv (ly.take i))
  (fun j qs=>j=0∧∃(n:Nat) (l:List Int),qs=[.b bx,.i (nx:Int),.r (rI lx),.b b2,.i (ny:Int),.r (rI ly),.b (!(Go.Eng.beq bx b2)),.i (n:Int),.r (rI l)]∧WOK n l∧nrm n l∧mv l=mv lx*mv ly) (n:=ny) (by omega) (fun k ps hk ⟨i,n,l,hps,hik,hw,hn,hv⟩=>by
  subst hps
  rw[qbV]
  by_cases hi:i<ny
  ·left
   have hil:i<ly.length:=by rw[hy.len];omega
   have gy:=hy.get i
   have tb:=q6U hy.dig i
   have tb2:=q6U hy.dig (i+1)
   have hT:mv lx*mv (ly.take (i+1))=mv l+ly.getD i 0*mv lx*pB i:=by
    rw[qhK hil,hv,vX hil];grind
   have hlt:mv lx*mv (ly.take (i+1))<pB 232:=by
    rcases qu0 (n:=i+1) hbx.1 hbx.2 tb2.1 (by omega) with h|h
    ·exact Int.lt_of_lt_of_le h (q8W (by omega))
    ·rw[h,Int.mul_zero];exact q8n _
   obtain⟨n',l',c1,c2,c3,c4⟩:=qjZ (f:=ly.getD i 0) (up:=i) hw hx (by omega) (by omega) hT (Int.mul_nonneg hbx.1 tb2.1) hlt (!(Go.Eng.beq bx b2)) bx
   have w:qh .i64 (i:Int) 1=((i+1:Nat):Int):=by rw[zh (by omega)];omega
   refine⟨k-1,_,by omega,?_,i+1,n',l',rfl,by omega,c2,c3,c4⟩
   have a1:(i:Int)<(ny:Int):=by omega
   have a2:(0:Int)≤(i:Int)∧(i:Int)<232:=by omega
   simp only[STD,a1,a2,and_self,q3h,c1,w]
  ·right
   have hi2:i=ny:=by omega
   have a1:¬(i:Int)<(ny:Int):=by omega
   refine⟨0,[.b bx,.i (nx:Int),.r (rI lx),.b b2,.i (ny:Int),.r (rI ly),.b (!(Go.Eng.beq bx b2)),.i (n:Int),.r (rI l)],?_,rfl,n,l,rfl,hw,hn,?_⟩
   ·simp only[STD,a1]
   ·have:=q87 ly ny (by rw[hy.len];exact hy.le)
    rw[v7 hy.dig hy.z (Nat.le_refl _),Int.mul_zero,Int.add_zero] at this
    rw[hv,hi2,←this])
  (ps:=[.i (ny:Int),.i 0,.b bx,.i (nx:Int),.r (rI lx),.b b2,.i (ny:Int),.r (rI ly),.b (!(Go.Eng.beq bx b2)),.i 0,.r (rI (List.replicate 232 0))])
  ⟨0,0,_,rfl,by omega,WOK.zero,.inl rfl,by rw[qaz];simp[mv]⟩
 refine⟨n,l,?_,g2,g3,g4⟩
 simp only[e0]
 simp only[STD,g1]
theorem qs2{nx ny:Nat}{lx ly:List Int}(hx:WOK nx lx)(hnx:nrm nx lx)(hy:WOK ny ly)(hny:nrm ny ly)(h0:ny≠0)(hle:mv ly≤mv lx)(hlt:mv lx<pB (ny+1))(hn231:ny≤231)(bx b2:Bool) :
  ∃k:Int,(js [.b bx,.i (nx:Int),.r (rI lx),.b b2,.i (ny:Int),.r (rI ly)]).run=some (0,[.i k,.b bx,.i (nx:Int),.r (rI lx),.b b2,.i (ny:Int),.r (rI ly)])∧1≤k∧k≤999999999∧k*mv ly≤mv lx:=by
 rw[qgr]
 obtain⟨m,rfl⟩:∃m,ny=m+1:=⟨ny-1,by omega⟩
 have hxl:=hx.len
 have hyl:=hy.len
 have hnx1:m+1≤nx:=qyT hy hny hx hle
 have hnx2:nx≤m+2:=by
  rcases Nat.lt_or_ge (m+2) nx with h|h
  ·exfalso
   have h1:=hx.lo hnx (by omega)
   have h2:=q8W (show m+1+1≤nx-1 by omega)
   omega
  ·exact h
 have gx1:=hx.get m
 have gx2:=hx.get (m+1)
 have gy:=hy.get m
 have sx:=q87 lx m (by omega)
 have sy:=q87 ly m (by omega)
 rw[q8S (show m<lx.length by omega),q8S (show m+1<lx.length by omega),v7 hx.dig hx.z (show nx≤m+1+1 by omega)] at sx
 rw[q8S (show m<ly.length by omega),v7 hy.dig hy.z (Nat.le_refl _)] at sy
 have tx:=q6U hx.dig m
 have ty:=q6U hy.dig m
 have hyn:ly.getD m 0≠0:=by
  rcases hny with h|h
  ·omega
  ·simpa using h
 have w1:qz .i64 ((m+1:Nat):Int) 1=(m:Int):=by rw[yl (by omega)];omega
 have c1:¬((m+1:Nat):Int)<0:=by omega
 have c2:¬(nx:Int)≤(m:Int):=by omega
 have c3:¬(m:Int)<0:=by omega
 have c4:¬((m+1:Nat):Int)≤(m:Int):=by omega
 have c5:(0:Int)≤(m:Int)∧(m:Int)<232:=by omega
 have c6:(0:Int)≤((m+1:Nat):Int)∧((m+1:Nat):Int)<232:=by omega
 have gex:lx[m]'(by omega)=lx.getD m 0:=(vX (by omega)).symm
 have gex1:lx[m+1]'(by omega)=lx.getD (m+1) 0:=(vX (by omega)).symm
 have gey:ly[m]'(by omega)=ly.getD m 0:=(vX (by omega)).symm
 rw[gex,gex1] at sx
 rw[gey] at sy
 have hp:=q8n m
 have key:∀a b:Int,a=lx.getD m 0+1000000000*lx.getD (m+1) 0→0<b→mv ly≤b*pB m→∀k,k=a/b→k*mv ly≤mv lx∧q61 k 999999999*mv ly≤mv lx:=by
  intro a b ha hb hbY k hk
  have hk0:0≤k:=by rw[hk];exact Int.ediv_nonneg (by omega) (by omega)
  have hkb:k*b≤a:=by rw[hk];exact Int.ediv_mul_le a (by omega)
  have hY:=(hy.bd).1
  have f1:k*mv ly≤k*(b*pB m):=Int.mul_le_mul_of_nonneg_left hbY hk0
  have f2:k*b*pB m≤a*pB m:=Int.mul_le_mul_of_nonneg_right hkb (by omega)
  have f3:k*(b*pB m)=k*b*pB m:=(Int.mul_assoc _ _ _).symm
  have f4:a*pB m=pB m*(lx.getD m 0+1000000000*(lx.getD (m+1) 0+1000000000*0)):=by rw[ha];grind
  have f5:k*mv ly≤mv lx:=by omega
  refine⟨f5,?_⟩
  have:q61 k 999999999≤k:=by unfold q61;split<;>omega
  have:=Int.mul_le_mul_of_nonneg_right this hY
  omega
 have wq:∀a b:Int,0≤a→a<1000000000000000000→0<b→jP .i64 a b=a/b:=by
  intro a b h1 h2 h3
  unfold jP
  rw[Int.tdiv_eq_ediv_of_nonneg h1]
  have q1:0≤a/b:=Int.ediv_nonneg h1 (by omega)
  have q2:a/b≤a:=Int.ediv_le_self _ h1
  generalize a/b=q at *
  unfold IntKind.wrap
  simp[IntKind.signed,IntKind.bits];omega
 have fin:∀k:Int,(0<k→k*mv ly≤mv lx∧q61 k 999999999*mv ly≤mv lx)→∃k':Int,(if 0<k then q61 k 999999999 else 1)=k'∧1≤k'∧k'≤999999999∧k'*mv ly≤mv lx:=by
  intro k hk
  by_cases h:0<k
  ·rw[if_pos h]
   refine⟨_,rfl,?_,?_,(hk h).2⟩
   ·unfold q61;split<;>omega
   ·unfold q61;split<;>omega
  ·rw[if_neg h];exact⟨1,rfl,by omega,by omega,by omega⟩
 by_cases hcase:nx≤m+1
 ·have c7:(nx:Int)≤((m+1:Nat):Int):=by omega
  have z1:lx.getD (m+1) 0=0:=hx.z _ (by omega)
  have wa:qh .i64 0 (lx.getD m 0)=lx.getD m 0:=by rw[zh (by omega)];omega
  by_cases hm:m=0
  ·subst hm
   have c8:¬(1:Int)<((0+1:Nat):Int):=by omega
   have hq:=wq (lx.getD 0 0) (ly.getD 0 0) (by omega) (by omega) (by omega)
   have hbY:mv ly≤ly.getD 0 0*pB 0:=by rw[q3u] at sy ty ⊢;omega
   obtain⟨k',f1,f2,f3,f4⟩:=fin (lx.getD 0 0/ly.getD 0 0) (fun _=>key _ _ (by rw[z1];omega) (by omega) hbY _ rfl)
   refine⟨k',?_,f2,f3,f4⟩
   rw[←f1]
   simp only[STD,c1,w1,c2,c3,c4,c5,c6,c7,c8,and_self,q3h,wa,hyn,hq]
   split<;>rfl
  ·have c8:(1:Int)<((m+1:Nat):Int):=by omega
   have wb:qh .i64 (ly.getD m 0) 1=ly.getD m 0+1:=zh (by omega)
   have hq:=wq (lx.getD m 0) (ly.getD m 0+1) (by omega) (by omega) (by omega)
   have hbY:mv ly≤(ly.getD m 0+1)*pB m:=by
    have:(ly.getD m 0+1)*pB m=pB m*(ly.getD m 0+1000000000*0)+pB m:=by grind
    omega
   obtain⟨k',f1,f2,f3,f4⟩:=fin (lx.getD m 0/(ly.getD m 0+1)) (fun _=>key _ _ (by rw[z1];omega) (by omega) hbY _ rfl)
   refine⟨k',?_,f2,f3,f4⟩
   rw[←f1]
   have hne:¬ly.getD m 0+1=0:=by omega
   simp only[STD,c1,w1,c2,c3,c4,c5,c6,c7,c8,and_self,q3h,wa,wb,hne,hq]
   split<;>rfl
 ·have c7:¬(nx:Int)≤((m+1:Nat):Int):=by omega
  have wm:kK .i64 (lx.getD (m+1) 0) 1000000000=lx.getD (m+1) 0*1000000000:=q6V (by omega)
  have wa:qh .i64 (lx.getD (m+1) 0*1000000000) (lx.getD m 0)=lx.getD (m+1) 0*1000000000+lx.getD m 0:=zh (by omega)
  by_cases hm:m=0
  ·subst hm
   have c8:¬(1:Int)<((0+1:Nat):Int):=by omega
   have hq:=wq (lx.getD (0+1) 0*1000000000+lx.getD 0 0) (ly.getD 0 0) (by omega) (by omega) (by omega)
   have hbY:mv ly≤ly.getD 0 0*pB 0:=by rw[q3u] at sy ty ⊢;omega
   obtain⟨k',f1,f2,f3,f4⟩:=fin ((lx.getD (0+1) 0*1000000000+lx.getD 0 0)/ly.getD 0 0) (fun _=>key _ _ (by omega) (by omega) hbY _ rfl)
   refine⟨k',?_,f2,f3,f4⟩
   rw[←f1]
   simp only[STD,c1,w1,c2,c3,c4,c5,c6,c7,c8,and_self,q3h,wm,wa,hyn,hq]
   split<;>rfl
  ·have c8:(1:Int)<((m+1:Nat):Int):=by omega
   have wb:qh .i64 (ly.getD m 0) 1=ly.getD m 0+1:=zh (by omega)
   have hq:=wq (lx.getD (m+1) 0*1000000000+lx.getD m 0) (ly.getD m 0+1) (by omega) (by omega) (by omega)
   have hbY:mv ly≤(ly.getD m 0+1)*pB m:=by
    have:(ly.getD m 0+1)*pB m=pB m*(ly.getD m 0+1000000000*0)+pB m:=by grind
    omega
   obtain⟨k',f1,f2,f3,f4⟩:=fin ((lx.getD (m+1) 0*1000000000+lx.getD m 0)/(ly.getD m 0+1)) (fun _=>key _ _ (by omega) (by omega) hbY _ rfl)
   refine⟨k',?_,f2,f3,f4⟩
   rw[←f1]
   have hne:¬ly.getD m 0+1=0:=by omega
   simp only[STD,c1,w1,c2,c3,c4,c5,c6,c7,c8,and_self,q3h,wm,wa,wb,hne,hq]
   split<;>rfl
end Go.Eng

namespace Go.Eng
theorem qwz(u:Nat):Lib.decDigits u=tN u:=by
 induction u using Nat.strongRecOn with
 | _ u ih=>
  rw[Lib.decDigits]
  split
  ·rename_i h
   rw[qnY h];rfl
  ·rename_i h
   rw[ih (u/10) (by omega)]
   exact(qq9 (n:=u) (by omega)).symm
theorem qpn(n:Int):Lib.itoa n=tI n:=by
 unfold Lib.itoa
 by_cases h:n<0
 ·rw[if_pos h,qwz,q8m h]
 ·rw[if_neg h,qwz,qec h];congr 1;omega
theorem qxV(n:Int)(h:-9223372036854775808≤n∧n≤9223372036854775807):(q2f [.i n]).run=some (0,[.s (tI n)]):=by
 show (qtb [.i n]).run=_
 unfold qtb
 simp only
 rw[if_pos h,qpn];rfl
theorem qnx{c:UInt8}(h:48≤c.toNat∧c.toNat≤57):Lib.digitVal c=some (dv c):=by
 unfold Lib.digitVal dv
 simp_all
theorem qj4:∀{s:List UInt8} (a:Nat),q3k s→Lib.decFrom a s=some (a*10^s.length+val s)
 | [],a,_=>by simp[Lib.decFrom,val]
 | c::s,a,h=>by
  obtain⟨h1,h2⟩:=uY.1 h
  rw[Lib.decFrom,qnx h1]
  simp only
  rw[qj4 _ h2,q3A,List.length_cons,Nat.pow_succ]
  congr 1
  grind
theorem qlf{s:List UInt8}(h:q3k s)(hn:s≠[]):Lib.decNat s=some (val s):=by
 unfold Lib.decNat
 rw[if_neg (by simpa using hn),qj4 0 h];simp
theorem qoW{s:List UInt8}(h:q3k s)(hn:s≠[]):Lib.atoi s=some (val s:Int):=by
 obtain⟨c,t,e,h1,h2⟩:=qcF h hn
 rw[e] at h ⊢
 have n1:(c==45)=false:=by
  rw[beq_eq_false_iff_ne];intro hc;subst hc;revert h1;decide
 have n2:(c==43)=false:=by
  rw[beq_eq_false_iff_ne];intro hc;subst hc;revert h1;decide
 unfold Lib.atoi
 simp only[n1,n2,Bool.false_eq_true,if_false]
 rw[qlf h (by simp)];rfl
theorem quQ(m:Int):Lib.atoi (tI m)=some m:=by
 by_cases h:m<0
 ·rw[q8m h]
  unfold Lib.atoi
  simp only[beq_self_eq_true,if_true]
  rw[qlf (zM _) (qjt _),uO]
  simp;omega
 ·rw[qec h,qoW (zM _) (qjt _),uO]
  congr 1;omega
theorem quz{s:List UInt8}{n:Int}(hl:s.length≤18)(h:Lib.atoi s=some n):(vg [.s s]).run=some (0,[.i n]):=by
 show (qut [.s s]).run=_
 unfold qut
 simp only
 rw[if_pos hl,h];rfl
theorem qru:∀s:List UInt8,Lib.indexByte s 47=if sP s<s.length then (sP s:Int) else -1
 | []=>by simp[Lib.indexByte,sP]
 | c::s=>by
  have ih:=qru s
  have hle:=qvu s
  unfold Lib.indexByte
  by_cases h:c=47
  ·subst h
   have:sP (47::s)=0:=qwJ (by simp) (by simp) (fun j hj=>by omega)
   rw[this];simp
  ·have hc:(c==47)=false:=by simpa using h
   have e:sP (c::s)=sP s+1:=by
    unfold sP
    rw[List.findIdx_cons,hc];rfl
   rw[e]
   generalize sP s=k at *
   have el:(c::s).length=s.length+1:=rfl
   simp only[hc,el,ih,Bool.false_eq_true,if_false]
   grind
theorem qwU(s:List UInt8):(vb [.s s,.s [47]]).run=some (0,[.i (if sP s<s.length then (sP s:Int) else -1)]):=by
 show (qoR [.s s,.s [47]]).run=_
 unfold qoR
 simp only
 rw[←qru];rfl
theorem qqK:∀{s t:List UInt8},q3k s→q3k t→s.length=t.length→Lib.compareBytes s t=sgn ((val s:Int)-(val t:Int))
 | [],[],_,_,_=>by simp[Lib.compareBytes,val,sgn]
 | [],_::_,_,_,h=>by simp at h
 | _::_,[],_,_,h=>by simp at h
 | a::s,b::t,hs,ht,h=>by
  obtain⟨h1,h2⟩:=uY.1 hs
  obtain⟨h3,h4⟩:=uY.1 ht
  have hl:s.length=t.length:=by simpa using h
  have ih:=qqK h2 h4 hl
  have v1:=q4d h2
  have v2:=q4d h4
  unfold Lib.compareBytes
  rw[q3A,q3A,hl]
  rw[hl] at v1
  have hp:0<10^t.length:=Nat.pow_pos (by omega)
  generalize 10^t.length=P at *
  unfold dv
  by_cases c1:a.toNat<b.toNat
  ·rw[if_pos (show a<b from c1)]
   have:(a.toNat-48+1)*P≤(b.toNat-48)*P:=Nat.mul_le_mul_right _ (by omega)
   rw[Nat.add_mul,Nat.one_mul] at this
   unfold sgn
   rw[if_pos (by omega)]
  ·rw[if_neg (show ¬a<b from c1)]
   by_cases c2:b.toNat<a.toNat
   ·rw[if_pos (show b<a from c2)]
    have:(b.toNat-48+1)*P≤(a.toNat-48)*P:=Nat.mul_le_mul_right _ (by omega)
    rw[Nat.add_mul,Nat.one_mul] at this
    unfold sgn
    rw[if_neg (by omega),if_neg (by omega)]
   ·rw[if_neg (show ¬b<a from c2),ih]
    have:a.toNat=b.toNat:=by omega
    rw[this]
    congr 1;omega
theorem qsz{s t:List UInt8}(hs:q3k s)(ht:q3k t)(h:s.length=t.length):(q1s [.s s,.s t]).run=some (0,[.i (sgn ((val s:Int)-(val t:Int)))]):=by
 show (qig [.s s,.s t]).run=_
 unfold qig
 simp only
 rw[qqK hs ht h];rfl
def qtc:List UInt8:=[48,49,50,51,52,53,54,55,56,57]
theorem qrx(c:UInt8):(qtc.contains c=true)↔(48≤c.toNat∧c.toNat≤57):=by
 constructor
 ·intro h
  simp only[qtc,List.contains_eq_mem,List.mem_cons,List.not_mem_nil,or_false,decide_eq_true_eq] at h
  rcases h with rfl|rfl|rfl|rfl|rfl|rfl|rfl|rfl|rfl|rfl<;>decide
 ·rintro ⟨h1,h2⟩
  have hk:∃k,c=UInt8.ofNat k∧48≤k∧k≤57:=⟨c.toNat,by simp,h1,h2⟩
  obtain⟨k,rfl,k1,k2⟩:=hk
  have:k=48∨k=49∨k=50∨k=51∨k=52∨k=53∨k=54∨k=55∨k=56∨k=57:=by omega
  rcases this with rfl|rfl|rfl|rfl|rfl|rfl|rfl|rfl|rfl|rfl<;>decide
theorem q6n{p:UInt8→Bool}:∀{l:List UInt8},l.dropWhile p=[]↔∀x,x∈l→p x=true
 | []=>by simp
 | a::l=>by
  rw[List.dropWhile_cons]
  by_cases h:p a=true
  ·rw[if_pos h,q6n];simp[h]
  ·rw[if_neg h];simp[h]
theorem qcD(s:List UInt8):(Lib.trimS s qtc=[])=q3k s:=by
 apply propext
 unfold Lib.trimS Lib.trimLeftS Lib.trimRightS
 constructor
 ·intro h
  have h1:∀c,c∈(s.reverse.dropWhile (qtc.contains ·)).reverse→qtc.contains c=true:=by
   intro c hc
   have:=q6n.1 h c hc
   simpa using this
  have h2:s.reverse.dropWhile (qtc.contains ·)=[]:=by
   cases hd:s.reverse.dropWhile (qtc.contains ·) with
   | nil=>rfl
   | cons c t=>
    exfalso
    have h3:=List.head_dropWhile_not (p:=(qtc.contains ·)) (l:=s.reverse) (by rw[hd];simp)
    simp only[hd,List.head_cons] at h3
    have:=h1 c (by rw[hd];simp)
    rw[this] at h3;cases h3
  intro c hc
  have:=q6n.1 h2 c (by simpa using hc)
  exact(qrx c).1 (by simpa using this)
 ·intro h
  have h2:s.reverse.dropWhile (qtc.contains ·)=[]:=by
   rw[q6n]
   intro c hc
   exact(qrx c).2 (h c (by simpa using hc))
  rw[h2];rfl
theorem qyI(s:List UInt8)(hl:s.length≤9223372036854775807):(q5b [.s s,.s [48,49,50,51,52,53,54,55,56,57]]).run=some (0,[.s (Lib.trimS s qtc)]):=by
 show (quO [.s s,.s qtc]).run=_
 unfold quO
 simp only
 rw[if_pos ⟨hl,by decide,by decide⟩];rfl
end Go.Eng

namespace Go.Eng
theorem quD(n:Nat):pB n=((10^(9*n):Nat):Int):=by
 unfold pB
 rw[Nat.pow_mul]
 simp
theorem qsp:∀k:Nat,k≤9→q8i [48,48,48,48,48,48,48,48,48] (k:Int) 9=List.replicate (9-k) 48
 | 0,_=>rfl
 | 1,_=>rfl
 | 2,_=>rfl
 | 3,_=>rfl
 | 4,_=>rfl
 | 5,_=>rfl
 | 6,_=>rfl
 | 7,_=>rfl
 | 8,_=>rfl
 | 9,_=>rfl
 | n+10,h=>by omega
theorem qwR{v:Nat}(h:v<1000000000):q3k (qto (tN v))∧(qto (tN v)).length=9∧val (qto (tN v))=v:=by
 have hl:(tN v).length≤9:=q3p 8 v (by omega)
 have e:qto (tN v)=List.replicate (9-(tN v).length) 48++tN v:=by
  unfold qto qeL
  rw[show qm (tN v)=((tN v).length:Int) from rfl,qsp _ hl]
 rw[e]
 refine⟨q4Z.2 ⟨qhj _,zM v⟩,by simp;omega,by rw[qiB,uO]⟩
theorem qlA{l:List Int}(hl:l.length=232)(hd:dgs l):∀i:Nat,i≤232→q3k (qfC (rI l) i)∧(qfC (rI l) i).length=9*i∧((val (qfC (rI l) i):Nat):Int)=mv (l.take i)
 | 0,_=>⟨qgn,rfl,by simp[qfC,qak,mv]⟩
 | i+1,h=>by
  obtain⟨h1,h2,h3⟩:=qlA hl hd i (by omega)
  have hil:i<l.length:=by omega
  have hg:=hd _ (List.getElem_mem hil)
  have e:cI (rI l) (i:Int) 0=l[i]:=by rw[q3h,vX hil]
  have e2:Lib.itoa l[i]=tN l[i].toNat:=by rw[qpn,qec (by omega)];congr 1;omega
  obtain⟨p1,p2,p3⟩:=qwR (v:=l[i].toNat) (by omega)
  unfold qfC
  rw[e,e2]
  refine⟨q4Z.2 ⟨p1,h1⟩,by rw[List.length_append,p2,h2];omega,?_⟩
  rw[qmV,p3,h2,qhK hil,quD]
  simp only[Int.natCast_add,Int.natCast_mul,h3]
  rw[Int.toNat_of_nonneg hg.1];omega
theorem qvP{n:Nat}{l:List Int}(h:WOK n l)(hn:nrm n l)(b:Bool):qtA b (n:Int) (rI l)=tI (sv b l):=by
 unfold qtA
 by_cases h0:n=0
 ·have h1:mv l=0:=by rw[←qge h hn];exact h0
  rw[if_pos (by omega)]
  unfold sv;rw[h1];cases b<;>rfl
 ·rw[if_neg (by omega)]
  obtain⟨m,rfl⟩:∃m,n=m+1:=⟨n-1,by omega⟩
  have hle:=h.le
  have hml:m<l.length:=by rw[h.len];omega
  have e1:(((m+1:Nat):Int)-1)=(m:Int):=by omega
  rw[e1,Int.toNat_natCast,q3h,vX hml]
  have hg:=h.dig _ (List.getElem_mem hml)
  have e2:Lib.itoa l[m]=tN l[m].toNat:=by rw[qpn,qec (by omega)];congr 1;omega
  obtain⟨t1,t2,t3⟩:=qlA h.len h.dig m (by omega)
  have hnz:l[m]≠0:=by
   rcases hn with hn|hn
   ·omega
   ·rw[Nat.add_sub_cancel,vX hml] at hn;exact hn
  have hlo:=h.lo hn h0
  have hp:=q8n m
  simp only[Nat.add_sub_cancel] at hlo
  have hv:((val (tN l[m].toNat++qfC (rI l) m):Nat):Int)=mv l:=by
   rw[qmV,uO,t2,q87 l m (by omega),q8S hml,v7 h.dig h.z (Nat.le_refl _),quD]
   simp only[Int.natCast_add,Int.natCast_mul,t3]
   rw[Int.toNat_of_nonneg hg.1]
   grind
  have hT:tN l[m].toNat++qfC (rI l) m=tN (mv l).toNat:=by
   have hd:q3k (tN l[m].toNat++qfC (rI l) m):=q4Z.2 ⟨zM _,t1⟩
   have hne:tN l[m].toNat++qfC (rI l) m≠[]:=by simp[qjt]
   have hz:(tN l[m].toNat++qfC (rI l) m).getD 0 0≠48:=by
    have hv0:=uO l[m].toNat
    have hd0:=zM l[m].toNat
    rcases qv3 l[m].toNat with h1|h1
    ·obtain⟨c,e⟩:=List.length_eq_one_iff.1 h1
     rw[e] at hv0 ⊢
     simp only[List.cons_append,List.getD_cons_zero]
     intro hc;subst hc
     rw[qpG] at hv0
     simp[dv] at hv0;omega
    ·obtain⟨c,t,e,_⟩:=qcF hd0 (qjt _)
     rw[e] at h1 ⊢
     simpa using h1
   have:=qjI hd hne (.inr hz)
   rw[this];congr 1;omega
  rw[e2,List.append_assoc,hT]
  unfold sv
  cases b
  ·rw[if_neg (by simp),if_neg (by simp),qec (by omega)];simp;congr 1;omega
  ·rw[if_pos rfl,if_pos rfl,q8m (by omega)];simp;congr 1;omega
theorem qsC{n:Nat}{l:List Int}(h:WOK n l):qm9 (n:Int) (rI l)=true:=by
 unfold qm9
 have:=h.le
 simp only[Bool.and_eq_true,decide_eq_true_eq,List.all_eq_true,List.mem_range]
 refine⟨⟨by omega,by omega⟩,fun i _=>?_⟩
 have:=h.get i
 rw[q3h];exact this
theorem qrg{n:Nat}{l:List Int}(h:WOK n l)(hn:nrm n l)(b:Bool):(qG [.b b,.i (n:Int),.r (rI l)]).run=some (0,[.s (tI (sv b l)),.b b,.i (n:Int),.r (rI l)]):=by
 show (quN [.b b,.i (n:Int),.r (rI l)]).run=_
 unfold quN
 simp only
 rw[if_pos (qsC h),qvP h hn];rfl
end Go.Eng

namespace Go.Eng
theorem qvC{nr ny:Nat}{lr ly:List Int}(hr:WOK nr lr)(hnr:nrm nr lr)(hy:WOK ny ly)(hny:nrm ny ly)(h0:ny≠0)(hy231:ny≤231)(hlt:mv lr<mv ly*1000000000)(y0:Int)(xb:Bool)(xi:Int)(xr:R)(b2:Bool)(qb:Bool)(qi:Int)(qr:R)(br:Bool) :
  ∃(d:Int) (n:Nat) (l:List Int),(qj jf [.i y0,.i 0,.b xb,.i xi,.r xr,.b b2,.i (ny:Int),.r (rI ly),.b qb,.i qi,.r qr,.b br,.i (nr:Int),.r (rI lr)]).run =
   some (0,[.i y0,.i d,.b xb,.i xi,.r xr,.b b2,.i (ny:Int),.r (rI ly),.b qb,.i qi,.r qr,.b br,.i (n:Int),.r (rI l)])∧WOK n l∧nrm n l∧0≤d∧d<1000000000∧mv lr=d*mv ly+mv l∧mv l<mv ly:=by
 have hyp:0<mv ly:=by
  have:=hy.lo hny h0
  have:=q8n (ny-1)
  omega
 have hyb:=hy.bd
 obtain⟨j,qs,g1,rfl,d,n,l,rfl,g2⟩:=vV (S:=jf) (fun k ps=>∃(d:Int) (n:Nat) (l:List Int),ps=[.i y0,.i d,.b xb,.i xi,.r xr,.b b2,.i (ny:Int),.r (rI ly),.b qb,.i qi,.r qr,.b br,.i (n:Int),.r (rI l)] ∧
   WOK n l∧nrm n l∧0≤d∧d+k=1000000000∧mv lr=d*mv ly+mv l)
  (fun j qs=>j=0∧∃(d:Int) (n:Nat) (l:List Int),qs=[.i y0,.i d,.b xb,.i xi,.r xr,.b b2,.i (ny:Int),.r (rI ly),.b qb,.i qi,.r qr,.b br,.i (n:Int),.r (rI l)]∧WOK n l∧nrm n l∧0≤d∧d<1000000000∧mv lr=d*mv ly+mv l∧mv l<mv ly) (n:=1000000000) (by omega)
  (fun k ps hk ⟨d,n,l,hps,hw,hn,hd0,hdk,hv⟩=>by
   subst hps
   have hlb:=hw.bd
   have hdlt:d<1000000000:=by
    rcases Int.lt_or_le d 1000000000 with h|h
    ·exact h
    ·have:=Int.mul_le_mul_of_nonneg_right h (show 0≤mv ly by omega)
     rw[Int.mul_comm (mv ly)] at hlt
     omega
   rw[qe7]
   obtain⟨r,r1,r2⟩:=qr1 hw hn hy hny br b2
   by_cases hle:mv ly≤mv l
   ·left
    have hr0:0≤r:=by rw[r2];exact hle
    have hdm:=Int.mul_nonneg hd0 (show 0≤mv ly by omega)
    have hl9:mv l<pB (ny+1):=by rw[q7G];omega
    obtain⟨q,e1,e2,e3,e4⟩:=qs2 hw hn hy hny h0 hle hl9 hy231 br b2
    obtain⟨n',l',c1,c2,c3,c4⟩:=qjZ (f:=-q) (up:=0) hw hy (by omega) (by omega) (T:=mv l-q*mv ly) (by rw[q3u,Int.mul_one,Int.neg_mul];omega) (by omega)
     (by have:=hlb.2;have:=q8W hw.le;have:=Int.mul_nonneg (show 0≤q by omega) (show 0≤mv ly by omega);omega) br b2
    have hq2:(d+q)*mv ly+(mv l-q*mv ly)=d*mv ly+mv l:=by rw[Int.add_mul];omega
    have hdq:d+q<1000000000:=by
     rcases Int.lt_or_le (d+q) 1000000000 with h|h
     ·exact h
     ·have:=Int.mul_le_mul_of_nonneg_right h (show 0≤mv ly by omega)
      rw[Int.mul_comm (mv ly)] at hlt
      omega
    have w1:qz .i64 0 q=-q:=qmH (by omega)
    have w2:qh .i64 d q=d+q:=zh (by omega)
    simp only[show ((0:Nat):Int)=0 from rfl] at c1
    refine⟨(1000000000-(d+q)).toNat,[.i y0,.i (d+q),.b xb,.i xi,.r xr,.b b2,.i (ny:Int),.r (rI ly),.b qb,.i qi,.r qr,.b br,.i (n':Int),.r (rI l')],by omega,?_,d+q,n',l',rfl,c2,c3,by omega,by omega,by rw[c4];omega⟩
    simp only[STD,r1,hr0,e1,w1,w2,c1]
   ·right
    have hr0:¬0≤r:=by rw[r2];exact hle
    refine⟨0,_,?_,rfl,d,n,l,rfl,hw,hn,hd0,hdlt,hv,by omega⟩
    simp only[STD,r1,hr0]) (ps:=[.i y0,.i 0,.b xb,.i xi,.r xr,.b b2,.i (ny:Int),.r (rI ly),.b qb,.i qi,.r qr,.b br,.i (nr:Int),.r (rI lr)]) ⟨0,nr,lr,rfl,hr,hnr,by omega,by omega,by omega⟩
 exact⟨d,n,l,g1,g2⟩
theorem qvU{n:Nat}{l:List Int}{d:Int}(h:WOK n l)(hn:n≤231)(hd:0≤d∧d<1000000000) :
  q9X (qfy (rI l) 1 (rI l) 0 (q61 (qpY (n:Int) 0) (qpY 232 1))) 0 0 [.i d]=rI (d::(l.take n++l.drop (1+n)))∧WOK (n+1) (d::(l.take n++l.drop (1+n)))∧mv (d::(l.take n++l.drop (1+n)))=d+1000000000*mv l:=by
 have hlen:=h.len
 have e1:q61 (qpY (n:Int) 0) (qpY 232 1)=(n:Int):=by unfold q61 qpY;split<;>omega
 obtain⟨x,t,rfl⟩:∃x t,l=x::t:=by
  cases l with
  | nil=>simp at hlen
  | cons x t=>exact⟨x,t,rfl⟩
 refine⟨?_,⟨by simp;simp at hlen;omega,by omega,?_,?_⟩,?_⟩
 ·rw[e1]
  unfold qfy
  have:(rI (x::t)).take (1:Int).toNat++((rI (x::t)).drop (0:Int).toNat).take (n:Int).toNat++(rI (x::t)).drop ((1:Int).toNat+(n:Int).toNat)=rI (x::((x::t).take n++(x::t).drop (1+n))):=by
   rw[Int.toNat_natCast]
   simp[rI,List.map_take,List.map_drop]
  rw[this,show (0:Int)=((0:Nat):Int) from rfl,qee]
  rfl
 ·intro y hy
  rcases List.mem_cons.1 hy with rfl|hy
  ·exact hd
  ·rcases List.mem_append.1 hy with hy|hy
   ·exact h.dig _ (List.mem_of_mem_take hy)
   ·exact h.dig _ (List.mem_of_mem_drop hy)
 ·intro i hi
  obtain⟨j,rfl⟩:∃j,i=j+1:=⟨i-1,by omega⟩
  have hz:=h.z (j+1) (by omega)
  rw[List.getD_eq_getElem?_getD] at hz ⊢
  rw[List.getElem?_cons_succ,List.getElem?_append_right (by simp;omega)]
  rw[List.getElem?_drop,List.length_take,Nat.min_eq_left (by omega)]
  rw[show 1+n+(j-n)=j+1 by omega]
  exact hz
 ·show d+1000000000*mv _=_
  rw[qqP,List.length_take,Nat.min_eq_left (by omega),v7 h.dig h.z (show n≤1+n by omega)]
  have:=q87 (x::t) n (by omega)
  rw[v7 h.dig h.z (Nat.le_refl n)] at this
  omega
theorem qbX{nx ny:Nat}{lx ly:List Int}(hx:WOK nx lx)(hy:WOK ny ly)(hny:nrm ny ly)(h0:ny≠0)(hy231:ny≤231)(bx b2:Bool) :
  ∃(nq:Nat) (lq:List Int) (nr:Nat) (lr:List Int),(wA [.b bx,.i (nx:Int),.r (rI lx),.b b2,.i (ny:Int),.r (rI ly)]).run =
   some (0,[.b bx,.i (nx:Int),.r (rI lx),.b b2,.i (ny:Int),.r (rI ly),.b false,.i (nq:Int),.r (rI lq),.b false,.i (nr:Int),.r (rI lr)])∧WOK nq lq∧nrm nq lq∧WOK nr lr∧nrm nr lr∧mv lx=mv lq*mv ly+mv lr∧mv lr<mv ly:=by
 rw[qi5]
 have hyp:0<mv ly:=by
  have:=hy.lo hny h0
  have:=q8n (ny-1)
  omega
 have hx232:=hx.le
 have e0:q21 232 [.i 0]=rI (List.replicate 232 0):=qeD 232 0
 have hxl:=hx.len
 obtain⟨j,qs,g1,rfl,nq,lq,nr,lr,rfl,g2,g3,g4,g5,g6⟩:=vV (S:=kJ) (fun k ps=>∃(Q:Int) (nq:Nat) (lq:List Int) (nr:Nat) (lr:List Int),
   ps=[.i ((k:Int)-1),.b bx,.i (nx:Int),.r (rI lx),.b b2,.i (ny:Int),.r (rI ly),.b false,.i (nq:Int),.r (rI lq),.b false,.i (nr:Int),.r (rI lr)]∧k≤nx∧WOK nq lq∧WOK nr lr∧nrm nr lr∧mv (lx.drop k)=Q*mv ly+mv lr∧mv lr<mv ly∧mv lq=pB k*Q∧∀i,i<k→lq.getD i 0=0)
  (fun j qs=>j=0∧∃(nq:Nat) (lq:List Int) (nr:Nat) (lr:List Int),qs=[.b bx,.i (nx:Int),.r (rI lx),.b b2,.i (ny:Int),.r (rI ly),.b false,.i (nq:Int),.r (rI lq),.b false,.i (nr:Int),.r (rI lr)]∧WOK nq lq∧WOK nr lr∧nrm nr lr∧mv lx=mv lq*mv ly+mv lr∧mv lr<mv ly) (n:=nx) (by omega)
  (fun k ps hk ⟨Q,nq,lq,nr,lr,hps,hkn,hwq,hwr,hnr,hv,hlt,hq,hz⟩=>by
   subst hps
   rw[qg9]
   rcases Nat.eq_zero_or_pos k with rfl|hk0
   ·right
    have a1:¬(0:Int)≤((0:Nat):Int)-1:=by omega
    refine⟨0,[.b bx,.i (nx:Int),.r (rI lx),.b b2,.i (ny:Int),.r (rI ly),.b false,.i (nq:Int),.r (rI lq),.b false,.i (nr:Int),.r (rI lr)],?_,rfl,nq,lq,nr,lr,rfl,hwq,hwr,hnr,?_,hlt⟩
    ·simp only[STD,a1]
    ·rw[hq,q3u,Int.one_mul,←hv,List.drop_zero]
   ·left
    obtain⟨i,rfl⟩:∃i,k=i+1:=⟨k-1,by omega⟩
    have e:(((i+1:Nat):Int)-1)=(i:Int):=by omega
    rw[e]
    have hnr231:nr≤231:=Nat.le_trans (qyT hwr hnr hy (by omega)) hy231
    have hil:i<lx.length:=by omega
    have gx:=hx.get i
    obtain⟨s1,s2,s3⟩:=qvU hwr hnr231 (d:=lx.getD i 0) gx
    obtain⟨m,t1,t2,t3⟩:=qfM s2 false
    have hX:mv (lx.drop i)=lx.getD i 0+1000000000*(Q*mv ly+mv lr):=by rw[q8S hil,←hv,vX hil]
    have hlt2:mv (lx.getD i 0::(lr.take nr++lr.drop (1+nr)))<mv ly*1000000000:=by rw[s3];omega
    obtain⟨d,n',l',d1,d2,d3,d4,d5,d6,d7⟩:=qvC t2 t3 hy hny h0 hy231 hlt2 (i:Int) bx (nx:Int) (rI lx) b2 false (nq:Int) (rI lq) false
    rw[s3] at d6
    have a1:(0:Int)≤(i:Int):=by omega
    have a2:(i:Int)<232:=by omega
    have a3:(0:Int)≤232∧(232:Int)≤232:=by omega
    have a4:(0:Int)≤1∧(1:Int)≤232:=by omega
    have a5:(0:Int)≤(nr:Int)∧(nr:Int)≤232:=by omega
    have a6:(0:Int)≤0∧(0:Int)≤(nr:Int):=by omega
    have w1:qh .i64 (nr:Int) 1=((nr+1:Nat):Int):=by rw[zh (by omega)];omega
    have w2:qh .i64 (i:Int) 1=((i+1:Nat):Int):=by rw[zh (by omega)];omega
    have w3:qz .i64 (i:Int) 1=(i:Int)-1:=yl (by omega)
    have w4:qaM (nq:Int) ((i+1:Nat):Int)=((max nq (i+1):Nat):Int):=qnk _ _
    have hiq:i<lq.length:=by rw[hwq.len];omega
    have hzi:lq[i]=0:=by rw[←vX hiq];exact hz i (by omega)
    refine⟨i,[.i ((i:Int)-1),.b bx,.i (nx:Int),.r (rI lx),.b b2,.i (ny:Int),.r (rI ly),.b false,.i ((max nq (i+1):Nat):Int),.r (rI (lq.set i d)),.b false,.i (n':Int),.r (rI l')],by omega,?_,Q*1000000000+d,_,_,_,_,rfl,by omega,hwq.setW (by omega) ⟨d4,d5⟩,d2,d3,?_,d7,?_,?_⟩
    ·simp only[q3h,s1,w1]
     simp only[STD,a1,a2,a3,a4,a5,a6,and_self,t1,d1,w2,w3,w4,qee]
    ·rw[hX,Int.add_mul,Int.mul_add]
     have:Q*1000000000*mv ly=1000000000*(Q*mv ly):=by grind
     omega
    ·rw[qqL lq i hiq,hzi,hq,q7G];grind
    ·intro a ha
     rw[List.getD_eq_getElem?_getD,List.getElem?_set_ne (by omega),←List.getD_eq_getElem?_getD]
     exact hz a (by omega))
  (ps:=[.i ((nx:Int)-1),.b bx,.i (nx:Int),.r (rI lx),.b b2,.i (ny:Int),.r (rI ly),.b false,.i 0,.r (rI (List.replicate 232 0)),.b false,.i 0,.r (rI (List.replicate 232 0))])
  ⟨0,0,_,0,_,rfl,Nat.le_refl _,WOK.zero,WOK.zero,.inl rfl,by rw[v7 hx.dig hx.z (Nat.le_refl _),qaz];omega,by rw[qaz];exact hyp,by rw[qaz,Int.mul_zero],fun i _=>qoa 232 i⟩
 obtain⟨m,t1,t2,t3⟩:=qfM g2 false
 refine⟨m,lq,nr,lr,?_,t2,t3,g3,g4,g5,g6⟩
 have hs:qz .i64 (nx:Int) 1=(nx:Int)-1:=yl (by omega)
 simp only[e0,hs]
 simp only[STD,g1,t1]
end Go.Eng

namespace Go.Eng
theorem qy7{c:UInt8}{t:List UInt8}:q8i (c::t) 0 1=[c]:=by simp[q8i]
theorem qty(s:List UInt8):(qE [.s s,.s [45]]).run=some (0,[.b (decide (s.getD 0 0=45))]):=by
 rw[q3E]
 have h1:qm [45]=1:=rfl
 cases s with
 | nil=>
  have a:¬(1:Int)≤qm []:=by decide
  simp only[STD,h1,a];rfl
 | cons c t=>
  have a:(1:Int)≤qm (c::t):=by unfold qm;simp only[List.length_cons];omega
  simp only[STD,h1,a,show (0:Int)≤1 by omega,show (0:Int)≤0 by omega,and_self,qy7]
  have e:seq [c] [45]=decide ((c::t).getD 0 0=45):=by rw[Bool.eq_iff_iff,zd];simp
  rw[e]
theorem qna(s:List UInt8):(qN [.s s,.s [45]]).run=some (0,[.s (mag s)]):=by
 rw[qcx]
 have h:(zb [.s s,.s [45]]).run=some (0,[.s (mag s)]):=by
  rw[q3i]
  have h1:qm [45]=1:=rfl
  unfold mag
  by_cases h:s.getD 0 0=45
  ·rw[if_pos h]
   have a:(1:Int)≤qm s:=by
    cases s with
    | nil=>simp at h
    | cons c t=>unfold qm;simp only[List.length_cons];omega
   have e:q8i s 1 (qm s)=s.drop 1:=by unfold q8i qm;simp
   simp only[STD,qty,h,h1,a,and_self,Int.le_refl,show (0:Int)≤qm s by omega,show (0:Int)≤1 by omega,e]
  ·rw[if_neg h]
   simp only[STD,qty,h]
 simp only[STD,h]
theorem qa2(s:List UInt8)(hl:s.length≤1000000000):(z6 [.s s]).run=some (0,[.i (qp6 s)]):=by
 rw[ql1]
 have hT:=qna s
 have hml:(mag s).length≤s.length:=by unfold mag;split<;>simp
 have hR:=qyI (mag s) (by omega)
 have hcan:=qoi s
 unfold qp6
 have hl3:(1024<qm (mag s))=¬((mag s).length≤1024):=by unfold qm;simp only[eq_iff_iff];omega
 by_cases hne:mag s=[]
 ·rw[if_neg (fun h=>(hcan.1 h).1 hne)]
  simp only[STD,hT,zd,hne]
 ·have hp:0<(mag s).length:=List.length_pos_iff.2 hne
  have a1:(0:Int)<qm (mag s):=by unfold qm;omega
  have hs:sat (mag s) 0=((mag s)[0].toNat:Int):=qep (i:=0) hp
  have h48:((mag s)[0].toNat:Int)=48↔(mag s).getD 0 0=48:=by
   have:(mag s).getD 0 0=(mag s)[0]:=by simp[List.getD_eq_getElem?_getD,hp]
   rw[this]
   exact⟨fun h=>UInt8.toNat_inj.1 (by show (mag s)[0].toNat=48;omega),fun h=>by rw[h];rfl⟩
  by_cases hd:q3k (mag s)
  ·have hs1:((mag s).getD 0 0=48→s.length=1)↔(((mag s)[0].toNat:Int)=48→s=[48]):=by
    rw[h48]
    constructor
    ·intro h h2
     obtain⟨c,e⟩:=List.length_eq_one_iff.1 (h h2)
     subst e
     by_cases hc:c=45
     ·subst hc;exact absurd rfl hne
     ·have:mag [c]=[c]:=by unfold mag;rw[if_neg (by simpa using hc)]
      rw[this] at h2
      simp at h2
      rw[h2]
    ·intro h h2
     rw[h h2];rfl
   by_cases hz:((mag s)[0].toNat:Int)=48
   ·by_cases h0:s=[48]
    ·rw[if_pos (hcan.2 ⟨hne,hd,hs1.2 fun _=>h0⟩)]
     by_cases hL:(mag s).length≤1024
     ·simp only[STD,hT,hR,zd,hne,qcD,hd,a1,hs,hz,hl3,hL,Int.le_refl,and_self]
      simp only[STD,h0]
     ·simp only[STD,hT,hR,zd,hne,qcD,hd,a1,hs,hz,hl3,hL,Int.le_refl,and_self]
      simp only[STD,h0]
    ·rw[if_neg (fun h=>h0 (hs1.1 (hcan.1 h).2.2 hz))]
     simp only[STD,hT,hR,zd,hne,qcD,hd,a1,hs,hz,h0,Int.le_refl,and_self]
   ·rw[if_pos (hcan.2 ⟨hne,hd,fun h=>absurd (h48.2 h) hz⟩)]
    by_cases hL:(mag s).length≤1024
    ·simp only[STD,hT,hR,zd,hne,qcD,hd,a1,hs,hz,hl3,hL,Int.le_refl,and_self]
    ·simp only[STD,hT,hR,zd,hne,qcD,hd,a1,hs,hz,hl3,hL,Int.le_refl,and_self]
  ·rw[if_neg (fun h=>hd (hcan.1 h).2.1)]
   simp only[STD,hT,hR,zd,hne,qcD,hd]
def okL(m:Int):Prop:=nl m≤1024
theorem qqf{m:Int}(h:okL m):qp6 (tI m)=0:=by
 unfold qp6
 rw[if_pos ⟨m,rfl⟩,qoh,if_pos (show (tN m.natAbs).length≤1024 from h)]
theorem qpW{m:Int}(h:okL m):(tI m).length≤1025:=by
 have:=qrp m
 unfold okL nl at h
 omega
theorem qfc{m:Int}(h:okL m):(z6 [.s (tI m)]).run=some (0,[.i 0]):=by
 have:=qpW h
 rw[qa2 _ (by omega),qqf h]
def rS(l:List (List UInt8)):R:=l.map fun s=>[.s s]
theorem qlN(l:List (List UInt8)):qt (rS l)=l.length:=by simp[rS,qt]
theorem qu8{l:List (List UInt8)}{i:Nat}(h:i<l.length):cS (rS l) (i:Int) 0=l[i]:=by simp[cS,ve,rS,List.getD_eq_getElem?_getD,h,U.toS]
theorem qyy{l:List (List UInt8)}(hn:l.length<1000000)(h:∀s,s∈l→(z6 [.s s]).run=some (0,[.i 0])):(zE [.r (rS l)]).run=some (0,[.i 0]):=by
 rw[qo8,qlN]
 have key:=yM (S:=q3F) (fun i=>[.r (rS l),.i (l.length:Int),.i (i:Int)]) (0,[]) l.length (by omega) (fun i hi=>by
  rw[qdt,qu8 hi]
  have a1:(i:Int)<(l.length:Int):=by omega
  have a2:(i:Int)<qt (rS l):=by rw[qlN];exact a1
  simp only[STD,a1,a2,q0h,and_self,h _ (List.getElem_mem hi),q43 hi (show l.length<9223372036854775808 by omega)]) (by
  rw[qdt]
  have a1:¬(l.length:Int)<(l.length:Int):=by omega
  simp only[STD,a1])
 simp only[show (((0:Nat)):Int)=0 from rfl] at key
 simp only[STD,key,qM key]
theorem qbn{m n:Int}(hm:okL m)(hn:okL n):(zE [.r [[.s (tI m)],[.s (tI n)]]]).run=some (0,[.i 0]):=by
 have:=qyy (l:=[tI m,tI n]) (by simp) (fun s hs=>by
  simp only[List.mem_cons,List.not_mem_nil,or_false] at hs
  rcases hs with rfl|rfl
  ·exact qfc hm
  ·exact qfc hn)
 exact this
theorem qcN(n:Int)(h:-9223372036854775808≤n∧n≤9223372036854775807):(wU [.i n]).run=some (0,[.s (tI n)]):=by
 rw[qpx]
 simp only[STD,qxV n h]
theorem q7R(m:Int):(tI m=[48])=(m=0):=propext ⟨fun h=>qnF (n:=0) h,fun h=>by rw[h];rfl⟩
theorem q17(m:Int):(jU [.s (tI m)]).run=some (0,[.i (sgn m)]):=by
 rw[qn7]
 have a1:(0:Int)<qm (tI m):=by have:=qiz m;unfold qm;omega
 have hs:(sat (tI m) 0=45)=(m<0):=qqO m
 unfold sgn
 by_cases h0:m=0
 ·simp only[STD,zd,q7R,h0];rfl
 ·by_cases h1:m<0
  ·simp only[STD,zd,q7R,h0,a1,hs,h1,Int.le_refl,and_self]
  ·simp only[STD,zd,q7R,h0,a1,hs,h1,Int.le_refl,and_self]
theorem qns{m:Int}(h:okL m):(q5c [.s (tI m)]).run=some (0,[.i (sgn m),.i 0]):=by
 rw[qm8]
 simp only[STD,qfc h,q17]
theorem qx7(m n:Nat):(q3R [.s (tN m),.s (tN n)]).run=some (0,[.i (sgn ((m:Int)-(n:Int)))]):=by
 rw[qkO]
 have hl:(qm (tN m)=qm (tN n))=((tN m).length=(tN n).length):=by unfold qm;simp only[eq_iff_iff];omega
 have hl2:(qm (tN m)<qm (tN n))=((tN m).length<(tN n).length):=by unfold qm;simp only[eq_iff_iff];omega
 by_cases he:(tN m).length=(tN n).length
 ·have h:=qsz (zM m) (zM n) he
  rw[uO,uO] at h
  simp only[STD,hl,he,h]
 ·by_cases hlt:(tN m).length<(tN n).length
  ·have h:=(qqd m n).1 (.inl hlt)
   simp only[STD,hl,hl2,he,hlt]
   unfold sgn
   rw[if_pos (by omega)]
  ·have h:=(qqd n m).1 (.inl (by omega))
   simp only[STD,hl,hl2,he,hlt]
   unfold sgn
   rw[if_neg (by omega),if_neg (by omega)]
theorem q9V(m:Int):(m<0∧sgn m=-1)∨(m=0∧sgn m=0)∨(0<m∧sgn m=1):=by
 unfold sgn
 rcases Int.lt_trichotomy m 0 with h|h|h
 ·rw[if_pos h];omega
 ·subst h;simp
 ·rw[if_neg (by omega),if_neg (by omega)];omega
theorem qja(m:Int):-1≤sgn m∧sgn m≤1:=by rcases q9V m with⟨_,e⟩|⟨_,e⟩|⟨_,e⟩<;>omega
theorem qxC(m n:Int):(if sgn m<sgn n then -1 else if sgn n<sgn m then 1 else sgn m*sgn ((m.natAbs:Int)-(n.natAbs:Int)))=sgn (m-n):=by
 rcases q9V m with⟨a,ea⟩|⟨a,ea⟩|⟨a,ea⟩<;>rcases q9V n with⟨b,eb⟩|⟨b,eb⟩|⟨b,eb⟩<;>rw[ea,eb]<;>simp only[Int.reduceLT,Int.reduceNeg,if_true,if_false] <;>
  rcases q9V (m-n) with⟨c,ec⟩|⟨c,ec⟩|⟨c,ec⟩<;>rcases q9V ((m.natAbs:Int)-(n.natAbs:Int)) with⟨d,ed⟩|⟨d,ed⟩|⟨d,ed⟩<;>omega
theorem qiy{m n:Int}(hm:okL m)(hn:okL n):(q1n [.s (tI m),.s (tI n)]).run=some (0,[.i (sgn (m-n)),.i 0]):=by
 rw[qi8]
 have h1:=qna (tI m)
 have h2:=qna (tI n)
 rw[qoh] at h1 h2
 have h3:=qx7 m.natAbs n.natAbs
 have hw:∀a b:Int,-1≤a∧a≤1→-1≤b∧b≤1→kK .i64 a b=a*b:=fun a b ha hb=>q6V (by have:=qyN (A:=1) (B:=1) ha.1 ha.2 hb.1 hb.2;omega)
 have ba:=qja m
 have bb:=qja n
 have bc:=qja ((m.natAbs:Int)-(n.natAbs:Int))
 have e:=qxC m n
 by_cases c1:sgn m<sgn n
 ·rw[if_pos c1] at e
  simp only[STD,qbn hm hn,q17,h1,h2,h3,c1,←e]
 ·rw[if_neg c1] at e
  by_cases c2:sgn n<sgn m
  ·rw[if_pos c2] at e
   simp only[STD,qbn hm hn,q17,h1,h2,h3,c1,c2,←e]
  ·rw[if_neg c2] at e
   simp only[STD,qbn hm hn,q17,h1,h2,h3,c1,c2,hw _ _ ba bc,←e]
theorem qhv(m:Int)(hm:nl m≤2000):∃(n:Nat) (l:List Int),(zr [.s (tI m)]).run=some (0,[.b (decide (m<0)),.i (n:Int),.r (rI l)])∧WOK n l∧nrm n l∧mv l=m.natAbs∧9*n≤nl m+8:=by
 rw[qn9]
 have h1:=qna (tI m)
 rw[qoh] at h1
 have a1:(0:Int)<qm (tI m):=by have:=qiz m;unfold qm;omega
 have hb:ieq (sat (tI m) 0) 45=decide (m<0):=by
  rw[Bool.eq_iff_iff,qqn,qqO];simp
 have e0:q21 232 [.i 0]=rI (List.replicate 232 0):=qeD 232 0
 have hL:(tN m.natAbs).length≤2000:=hm
 obtain⟨j,qs,g1,rfl,n,l,rfl,g2,g3,g4⟩:=vV (S:=q2k) (fun k ps=>∃(n:Nat) (l:List Int),ps=[.s ((tN m.natAbs).take k),.b (decide (m<0)),.i (n:Int),.r (rI l)]∧k≤(tN m.natAbs).length∧WOK n l ∧
   (k=0∧9*n≤(tN m.natAbs).length+8∨k+9*n=(tN m.natAbs).length)∧((val (tN m.natAbs):Nat):Int)=((val ((tN m.natAbs).take k):Nat):Int)*pB n+mv l)
  (fun j qs=>j=0∧∃(n:Nat) (l:List Int),qs=[.b (decide (m<0)),.i (n:Int),.r (rI l)]∧WOK n l∧mv l=m.natAbs∧9*n≤(tN m.natAbs).length+8) (n:=(tN m.natAbs).length) (by omega)
  (fun k ps hk ⟨n,l,hps,hkl,hw,hkn,hv⟩=>by
   subst hps
   rw[qkd]
   have hlk:qm ((tN m.natAbs).take k)=(k:Int):=by unfold qm;rw[List.length_take,Nat.min_eq_left hkl]
   rcases Nat.eq_zero_or_pos k with rfl|hk0
   ·right
    refine⟨0,[.b (decide (m<0)),.i (n:Int),.r (rI l)],?_,rfl,n,l,rfl,hw,?_,by omega⟩
    ·have a:¬(0:Int)<qm ((tN m.natAbs).take 0):=by rw[hlk];omega
     simp only[STD,a]
    ·rw[uO,List.take_zero,qak] at hv
     simp at hv;omega
   ·left
    have hn231:n≤231:=by omega
    obtain⟨q,hq,hq9⟩:∃q:Nat,qaM 0 (qz .i64 (k:Int) 9)=(q:Int)∧q=k-9:=by
     refine⟨k-9,?_,rfl⟩
     rw[yl (by omega)];unfold qaM;split<;>omega
    have hqk:q≤k:=by omega
    have hsub:q8i ((tN m.natAbs).take k) (q:Int) (k:Int)=((tN m.natAbs).take k).drop q:=by unfold q8i;simp[List.take_take]
    have hsub2:q8i ((tN m.natAbs).take k) 0 (q:Int)=(tN m.natAbs).take q:=by unfold q8i;simp[List.take_take,Nat.min_eq_left hqk]
    have hdg:q3k (((tN m.natAbs).take k).drop q):=qtT (qoD (zM _) k) q
    have hdl:(((tN m.natAbs).take k).drop q).length=k-q:=by rw[List.length_drop,List.length_take,Nat.min_eq_left hkl]
    have hdn:((tN m.natAbs).take k).drop q≠[]:=by intro h;rw[h] at hdl;simp at hdl;omega
    have hA:=quz (s:=((tN m.natAbs).take k).drop q) (by omega) (qoW hdg hdn)
    have hvl:=q4d hdg
    rw[hdl] at hvl
    have hv9:val (((tN m.natAbs).take k).drop q)<1000000000:=Nat.lt_of_lt_of_le hvl (by
     have:(10:Nat)^(k-q)≤10^9:=Nat.pow_le_pow_right (by omega) (by omega)
     simpa using this)
    have b1:(0:Int)<(k:Int):=by omega
    have b2:(0:Int)≤(q:Int)∧(q:Int)≤(k:Int):=by omega
    have b3:(0:Int)≤(k:Int)∧(k:Int)≤(k:Int):=by omega
    have b4:(0:Int)≤(n:Int)∧(n:Int)<232:=by omega
    have b5:(0:Int)≤0∧(0:Int)≤(q:Int):=by omega
    have w1:qh .i64 (n:Int) 1=((n+1:Nat):Int):=by rw[zh (by omega)];omega
    have hnl:n<l.length:=by rw[hw.len];omega
    have hz:l[n]=0:=by rw[←vX hnl];exact hw.z n (Nat.le_refl _)
    have hW:=hw.setW (j:=n) (y:=((val (((tN m.natAbs).take k).drop q):Nat):Int)) (by omega) (by omega)
    rw[Nat.max_eq_right (by omega)] at hW
    refine⟨q,[.s ((tN m.natAbs).take q),.b (decide (m<0)),.i ((n+1:Nat):Int),.r (rI (l.set n ((val (((tN m.natAbs).take k).drop q):Nat):Int)))],by omega,?_,n+1,_,rfl,by omega,hW,by omega,?_⟩
    ·simp only[STD,hlk,b1,hq,b2,b3,b4,b5,and_self,hsub,hsub2,hA,w1,qee]
    ·rw[qqL l n hnl,hz,hv]
     have hsp:val ((tN m.natAbs).take k)=val ((tN m.natAbs).take q)*10^(k-q)+val (((tN m.natAbs).take k).drop q):=by
      have h1:(tN m.natAbs).take k=((tN m.natAbs).take k).take q++((tN m.natAbs).take k).drop q:=(List.take_append_drop q _).symm
      have h2:((tN m.natAbs).take k).take q=(tN m.natAbs).take q:=by rw[List.take_take,Nat.min_eq_left hqk]
      rw[h2] at h1
      generalize ((tN m.natAbs).take k).drop q=D at *
      rw[h1,qmV,hdl]
     rw[hsp,q7G]
     rcases Nat.lt_or_ge k 9 with h9|h9
     ·have:q=0:=by omega
      subst this
      rw[List.take_zero,qak]
      simp;omega
     ·have:k-q=9:=by omega
      rw[this]
      simp only[Int.natCast_add,Int.natCast_mul]
      have e9:(((10:Nat)^9:Nat):Int)=1000000000:=by simp
      rw[e9]
      grind) (ps:=[.s ((tN m.natAbs).take (tN m.natAbs).length),.b (decide (m<0)),.i 0,.r (rI (List.replicate 232 0))])
  ⟨0,_,rfl,Nat.le_refl _,WOK.zero,.inr (by omega),by rw[q3u,List.take_length,qaz];simp⟩
 rw[List.take_length] at g1
 obtain⟨n2,t1,t2,t3⟩:=qfM g2 (decide (m<0))
 refine⟨n2,l,?_,t2,t3,g3,?_⟩
 ·simp only[STD,e0,hb,h1,a1,Int.le_refl,and_self,g1,t1]
 ·have:=qyT t2 t3 g2 (Int.le_refl _)
  unfold nl;omega
end Go.Eng

