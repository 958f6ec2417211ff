/- Texts of the proof, merged: what the code computes, and plain laws. No statement stands here. -/
import Derived.OpenShut
import Derived.Deep.Slices
import Derived.SizedLaws
import Derived.Below
import Derived.Lib.LaidTab
import Derived.Test.YtehgceikghodkaaGreatDoorM3
namespace Go.Eng
theorem qcW(y0:Int)(y1:Int)(y2:R):u5 [.i y0,.i y1,.r y2]=(.br (ilt y1 y0) (.br (inb y1 (qL y2)) (.br (ilt 12 (qw (cS y2 y1 0))) (.leaf (2,[(.b false)])) (.leaf (0,[(.i y0),(.i (qt .i64 y1 1)),(.r y2)]))) .fail) (.leaf (1,[]))):=by kernel_rfl
theorem qny(x0:List UInt8)(x1:List UInt8)(x2:List UInt8):q0W [.s x0,.s x1,.s x2]=(.br (okR (qf u5 [(.i (qL [[(.s x0)],[(.s x1)],[(.s x2)]])),(.i 0),(.r [[(.s x0)],[(.s x1)],[(.s x2)]])])) (.br (jIs (qf u5 [(.i (qL [[(.s x0)],[(.s x1)],[(.s x2)]])),(.i 0),(.r [[(.s x0)],[(.s x1)],[(.s x2)]])]) 0) (.leaf (0,[(.b true)])) (.leaf (0,[(.b (gB (qf u5 [(.i (qL [[(.s x0)],[(.s x1)],[(.s x2)]])),(.i 0),(.r [[(.s x0)],[(.s x1)],[(.s x2)]])]) 0))]))) .fail):=by kernel_rfl
theorem qfM(y0:R)(y1:Int):jK [.r y0,.i y1]=(.br (ilt y1 (qL y0)) (.br (ilt y1 6) (.br (inb y1 (qL y0)) (.br (okR (q0W [(.s (cS y0 y1 0)),(.s (cS y0 y1 1)),(.s (cS y0 y1 2))])) (.br (not (gB (q0W [(.s (cS y0 y1 0)),(.s (cS y0 y1 1)),(.s (cS y0 y1 2))]) 0)) (.leaf (2,[(.b false)])) (.leaf (0,[(.r y0),(.i (qt .i64 y1 1))]))) .fail) .fail) (.leaf (1,[(.r y0)]))) (.leaf (1,[(.r y0)]))):=by kernel_rfl
theorem qqX(x0:R):q4a [.r x0]=(.br (okR (qf jK [(.r x0),(.i 0)])) (.br (jIs (qf jK [(.r x0),(.i 0)]) 0) (.br (ile (qL (gR (qf jK [(.r x0),(.i 0)]) 0)) 5) (.leaf (0,[(.b true)])) (.br (ilt 64 (qL (gR (qf jK [(.r x0),(.i 0)]) 0))) (.leaf (0,[(.b (ilt (qL (gR (qf jK [(.r x0),(.i 0)]) 0)) 128))])) (.leaf (0,[(.b false)])))) (.leaf (0,[(.b (gB (qf jK [(.r x0),(.i 0)]) 0))]))) .fail):=by kernel_rfl
theorem q9B(x0:List UInt8)(x1:List UInt8):zv [.s x0,.s x1]=(.br (okR (qY [(.s x0),(.s x1)])) (.br (ile 0 (gI (qY [(.s x0),(.s x1)]) 0)) (.br (q6E (gI (qY [(.s x0),(.s x1)]) 0) (qw x0)) (.br (q6E 0 (gI (qY [(.s x0),(.s x1)]) 0)) (.br (q6E (qw x0) (qw x0)) (.br (q6E (qt .i64 (gI (qY [(.s x0),(.s x1)]) 0) (qw x1)) (qw x0)) (.leaf (0,[(.s (q5W x0 0 (gI (qY [(.s x0),(.s x1)]) 0))),(.s (q5W x0 (qt .i64 (gI (qY [(.s x0),(.s x1)]) 0) (qw x1)) (qw x0))),(.b true)])) .fail) .fail) .fail) .fail) (.leaf (0,[(.s x0),(.s []),(.b false)]))) .fail):=by kernel_rfl
theorem qna(x0:List UInt8)(x1:List UInt8):jf [.s x0,.s x1]=(.br (okR (zv [(.s x0),(.s x1)])) (.leaf (0,[(.s (gS (zv [(.s x0),(.s x1)]) 0)),(.s (gS (zv [(.s x0),(.s x1)]) 1)),(.b (gB (zv [(.s x0),(.s x1)]) 2))])) .fail):=by kernel_rfl
theorem qri(x0:List UInt8):q8 [.s x0]=(.br (okR (jf [(.s x0),(.s [47])])) (.br (not (gB (jf [(.s x0),(.s [47])]) 2)) (.leaf (0,[(.s (gS (jf [(.s x0),(.s [47])]) 0)),(.s [49]),(.b (gB (jf [(.s x0),(.s [47])]) 2))])) (.leaf (0,[(.s (gS (jf [(.s x0),(.s [47])]) 0)),(.s (gS (jf [(.s x0),(.s [47])]) 1)),(.b (gB (jf [(.s x0),(.s [47])]) 2))]))) .fail):=by kernel_rfl
theorem q52(x0:List UInt8)(x1:List UInt8):qV [.s x0,.s x1]=(.br (ile (qw x1) (qw x0)) (.br (q6E (qw x1) (qw x0)) (.br (q6E 0 (qw x1)) (.leaf (0,[(.b (seq (q5W x0 0 (qw x1)) x1))])) .fail) .fail) (.leaf (0,[(.b false)]))):=by kernel_rfl
theorem q4o(x0:List UInt8)(x1:List UInt8):zp [.s x0,.s x1]=(.br (okR (qV [(.s x0),(.s x1)])) (.br (gB (qV [(.s x0),(.s x1)]) 0) (.br (q6E (qw x0) (qw x0)) (.br (q6E (qw x1) (qw x0)) (.leaf (0,[(.s (q5W x0 (qw x1) (qw x0)))])) .fail) .fail) (.leaf (0,[(.s x0)]))) .fail):=by kernel_rfl
theorem qep(x0:List UInt8)(x1:List UInt8):ql [.s x0,.s x1]=(.br (okR (zp [(.s x0),(.s x1)])) (.leaf (0,[(.s (gS (zp [(.s x0),(.s x1)]) 0))])) .fail):=by kernel_rfl
theorem qni(x0:List UInt8):qJ [.s x0]=(.br (okR (ql [(.s x0),(.s [45])])) (.br (seq (gS (ql [(.s x0),(.s [45])]) 0) []) (.leaf (0,[(.i 3)])) (.br (okR (q3z [(.s (gS (ql [(.s x0),(.s [45])]) 0)),(.s [48,49,50,51,52,53,54,55,56,57])])) (.br (not (seq (gS (q3z [(.s (gS (ql [(.s x0),(.s [45])]) 0)),(.s [48,49,50,51,52,53,54,55,56,57])]) 0) [])) (.leaf (0,[(.i 3)])) (.br (inb 0 (qw (gS (ql [(.s x0),(.s [45])]) 0))) (.br (ieq (sat (gS (ql [(.s x0),(.s [45])]) 0) 0) 48) (.br (not (seq x0 [48])) (.leaf (0,[(.i 3)])) (.br (ilt 1024 (qw (gS (ql [(.s x0),(.s [45])]) 0))) (.leaf (0,[(.i 11)])) (.leaf (0,[(.i 0)])))) (.br (ilt 1024 (qw (gS (ql [(.s x0),(.s [45])]) 0))) (.leaf (0,[(.i 11)])) (.leaf (0,[(.i 0)])))) .fail)) .fail)) .fail):=by kernel_rfl
theorem qg3(y0:R)(y1:Int)(y2:Int):q1f [.r y0,.i y1,.i y2]=(.br (ilt y2 y1) (.br (inb y2 (qL y0)) (.br (okR (qJ [(.s (cS y0 y2 0))])) (.br (ine (gI (qJ [(.s (cS y0 y2 0))]) 0) 0) (.leaf (2,[(.i (gI (qJ [(.s (cS y0 y2 0))]) 0))])) (.leaf (0,[(.r y0),(.i y1),(.i (qt .i64 y2 1))]))) .fail) .fail) (.leaf (1,[]))):=by kernel_rfl
theorem qr8(x0:R):zo [.r x0]=(.br (okR (qf q1f [(.r x0),(.i (qL x0)),(.i 0)])) (.br (jIs (qf q1f [(.r x0),(.i (qL x0)),(.i 0)]) 0) (.leaf (0,[(.i 0)])) (.leaf (0,[(.i (gI (qf q1f [(.r x0),(.i (qL x0)),(.i 0)]) 0))]))) .fail):=by kernel_rfl
theorem qp1(x0:List UInt8):zS [.s x0]=(.br (seq x0 [48]) (.leaf (0,[(.i 0)])) (.br (inb 0 (qw x0)) (.br (ieq (sat x0 0) 45) (.leaf (0,[(.i (-1))])) (.leaf (0,[(.i 1)]))) .fail)):=by kernel_rfl
theorem qns(x0:List UInt8)(x1:List UInt8):q2z [.s x0,.s x1]=(.br (ine (qw x0) (qw x1)) (.br (ilt (qw x0) (qw x1)) (.leaf (0,[(.i (-1))])) (.leaf (0,[(.i 1)]))) (.br (okR (q0m [(.s x0),(.s x1)])) (.leaf (0,[(.i (gI (q0m [(.s x0),(.s x1)]) 0))])) .fail)):=by kernel_rfl
theorem qkG(x0:List UInt8)(x1:List UInt8):ui [.s x0,.s x1]=(.br (okR (zo [(.r [[(.s x0)],[(.s x1)]])])) (.br (ine (gI (zo [(.r [[(.s x0)],[(.s x1)]])]) 0) 0) (.leaf (0,[(.i 0),(.i (gI (zo [(.r [[(.s x0)],[(.s x1)]])]) 0))])) (.br (okR (zS [(.s x0)])) (.br (okR (zS [(.s x1)])) (.br (ilt (gI (zS [(.s x0)]) 0) (gI (zS [(.s x1)]) 0)) (.leaf (0,[(.i (-1)),(.i 0)])) (.br (okR (zS [(.s x1)])) (.br (ilt (gI (zS [(.s x1)]) 0) (gI (zS [(.s x0)]) 0)) (.leaf (0,[(.i 1),(.i 0)])) (.br (okR (ql [(.s x0),(.s [45])])) (.br (okR (ql [(.s x1),(.s [45])])) (.br (okR (q2z [(.s (gS (ql [(.s x0),(.s [45])]) 0)),(.s (gS (ql [(.s x1),(.s [45])]) 0))])) (.leaf (0,[(.i (q0Q .i64 (gI (zS [(.s x0)]) 0) (gI (q2z [(.s (gS (ql [(.s x0),(.s [45])]) 0)),(.s (gS (ql [(.s x1),(.s [45])]) 0))]) 0))),(.i 0)])) .fail) .fail) .fail)) .fail)) .fail) .fail)) .fail):=by kernel_rfl
theorem qcA(y0:Bool)(y1:Int)(y2:R):wj [.b y0,.i y1,.r y2]=(.br (ilt 0 y1) (.br (inb (z8 .i64 y1 1) 232) (.br (inb (z8 .i64 y1 1) 232) (.br (ieq (cI y2 (z8 .i64 y1 1) 0) 0) (.leaf (0,[(.b y0),(.i (z8 .i64 y1 1)),(.r y2)])) (.leaf (1,[(.b y0),(.i y1),(.r y2)]))) .fail) .fail) (.leaf (1,[(.b y0),(.i y1),(.r y2)]))):=by kernel_rfl
theorem qdX(x0:Bool)(x1:Int)(x2:R):qG [.b x0,.i x1,.r x2]=(.br (okR (qf wj [(.b x0),(.i x1),(.r x2)])) (.leaf (0,[(.b (gB (qf wj [(.b x0),(.i x1),(.r x2)]) 0)),(.i (gI (qf wj [(.b x0),(.i x1),(.r x2)]) 1)),(.r (gR (qf wj [(.b x0),(.i x1),(.r x2)]) 2))])) .fail):=by kernel_rfl
theorem qmT(y0:List UInt8)(y1:Bool)(y2:Int)(y3:R):zx [.s y0,.b y1,.i y2,.r y3]=(.br (ilt 0 (qw y0)) (.br (q6E (qw y0) (qw y0)) (.br (q6E (q8m 0 (z8 .i64 (qw y0) 9)) (qw y0)) (.br (okR (vu [(.s (q5W y0 (q8m 0 (z8 .i64 (qw y0) 9)) (qw y0)))])) (.br (inb y2 232) (.br (inb y2 232) (.br (q6E (q8m 0 (z8 .i64 (qw y0) 9)) (qw y0)) (.br (q6E 0 (q8m 0 (z8 .i64 (qw y0) 9))) (.leaf (0,[(.s (q5W y0 0 (q8m 0 (z8 .i64 (qw y0) 9)))),(.b y1),(.i (qt .i64 y2 1)),(.r (qbN y3 y2 0 [(.i (gI (vu [(.s (q5W y0 (q8m 0 (z8 .i64 (qw y0) 9)) (qw y0)))]) 0))]))])) .fail) .fail) .fail) .fail) .fail) .fail) .fail) (.leaf (1,[(.b y1),(.i y2),(.r y3)]))):=by kernel_rfl
theorem qoF(x0:List UInt8):qk [.s x0]=(.br (inb 0 (qw x0)) (.br (okR (ql [(.s x0),(.s [45])])) (.br (okR (qf zx [(.s (gS (ql [(.s x0),(.s [45])]) 0)),(.b (ieq (sat x0 0) 45)),(.i 0),(.r (zK 232 [(.i 0)]))])) (.br (okR (qG [(.b (gB (qf zx [(.s (gS (ql [(.s x0),(.s [45])]) 0)),(.b (ieq (sat x0 0) 45)),(.i 0),(.r (zK 232 [(.i 0)]))]) 0)),(.i (gI (qf zx [(.s (gS (ql [(.s x0),(.s [45])]) 0)),(.b (ieq (sat x0 0) 45)),(.i 0),(.r (zK 232 [(.i 0)]))]) 1)),(.r (gR (qf zx [(.s (gS (ql [(.s x0),(.s [45])]) 0)),(.b (ieq (sat x0 0) 45)),(.i 0),(.r (zK 232 [(.i 0)]))]) 2))])) (.leaf (0,[(.b (gB (qG [(.b (gB (qf zx [(.s (gS (ql [(.s x0),(.s [45])]) 0)),(.b (ieq (sat x0 0) 45)),(.i 0),(.r (zK 232 [(.i 0)]))]) 0)),(.i (gI (qf zx [(.s (gS (ql [(.s x0),(.s [45])]) 0)),(.b (ieq (sat x0 0) 45)),(.i 0),(.r (zK 232 [(.i 0)]))]) 1)),(.r (gR (qf zx [(.s (gS (ql [(.s x0),(.s [45])]) 0)),(.b (ieq (sat x0 0) 45)),(.i 0),(.r (zK 232 [(.i 0)]))]) 2))]) 0)),(.i (gI (qG [(.b (gB (qf zx [(.s (gS (ql [(.s x0),(.s [45])]) 0)),(.b (ieq (sat x0 0) 45)),(.i 0),(.r (zK 232 [(.i 0)]))]) 0)),(.i (gI (qf zx [(.s (gS (ql [(.s x0),(.s [45])]) 0)),(.b (ieq (sat x0 0) 45)),(.i 0),(.r (zK 232 [(.i 0)]))]) 1)),(.r (gR (qf zx [(.s (gS (ql [(.s x0),(.s [45])]) 0)),(.b (ieq (sat x0 0) 45)),(.i 0),(.r (zK 232 [(.i 0)]))]) 2))]) 1)),(.r (gR (qG [(.b (gB (qf zx [(.s (gS (ql [(.s x0),(.s [45])]) 0)),(.b (ieq (sat x0 0) 45)),(.i 0),(.r (zK 232 [(.i 0)]))]) 0)),(.i (gI (qf zx [(.s (gS (ql [(.s x0),(.s [45])]) 0)),(.b (ieq (sat x0 0) 45)),(.i 0),(.r (zK 232 [(.i 0)]))]) 1)),(.r (gR (qf zx [(.s (gS (ql [(.s x0),(.s [45])]) 0)),(.b (ieq (sat x0 0) 45)),(.i 0),(.r (zK 232 [(.i 0)]))]) 2))]) 2))])) .fail) .fail) .fail) .fail):=by kernel_rfl
theorem qrv(x0:Int):vm [.i x0]=(.br (okR (q3x [(.i x0)])) (.leaf (0,[(.s (gS (q3x [(.i x0)]) 0))])) .fail):=by kernel_rfl
theorem qdA(y0:Int)(y1:Bool)(y2:Int)(y3:R)(y4:Bool)(y5:Int)(y6:R):qF [.i y0,.b y1,.i y2,.r y3,.b y4,.i y5,.r y6]=(.br (ile 0 y0) (.br (inb y0 232) (.br (inb y0 232) (.br (inb y0 232) (.br (inb y0 232) (.br (ine (cI y3 y0 0) (cI y6 y0 0)) (.br (inb y0 232) (.br (inb y0 232) (.br (inb y0 232) (.br (inb y0 232) (.leaf (2,[(.i (z8 .i64 (cI y3 y0 0) (cI y6 y0 0))),(.b y1),(.i y2),(.r y3),(.b y4),(.i y5),(.r y6)])) .fail) .fail) .fail) .fail) (.leaf (0,[(.i (z8 .i64 y0 1)),(.b y1),(.i y2),(.r y3),(.b y4),(.i y5),(.r y6)]))) .fail) .fail) .fail) .fail) (.leaf (1,[(.b y1),(.i y2),(.r y3),(.b y4),(.i y5),(.r y6)]))):=by kernel_rfl
theorem qfg(x0:Bool)(x1:Int)(x2:R)(x3:Bool)(x4:Int)(x5:R):wG [.b x0,.i x1,.r x2,.b x3,.i x4,.r x5]=(.br (ine x1 x4) (.leaf (0,[(.i (z8 .i64 x1 x4)),(.b x0),(.i x1),(.r x2),(.b x3),(.i x4),(.r x5)])) (.br (okR (qf qF [(.i (z8 .i64 x1 1)),(.b x0),(.i x1),(.r x2),(.b x3),(.i x4),(.r x5)])) (.br (jIs (qf qF [(.i (z8 .i64 x1 1)),(.b x0),(.i x1),(.r x2),(.b x3),(.i x4),(.r x5)]) 0) (.leaf (0,[(.i 0),(.b (gB (qf qF [(.i (z8 .i64 x1 1)),(.b x0),(.i x1),(.r x2),(.b x3),(.i x4),(.r x5)]) 0)),(.i (gI (qf qF [(.i (z8 .i64 x1 1)),(.b x0),(.i x1),(.r x2),(.b x3),(.i x4),(.r x5)]) 1)),(.r (gR (qf qF [(.i (z8 .i64 x1 1)),(.b x0),(.i x1),(.r x2),(.b x3),(.i x4),(.r x5)]) 2)),(.b (gB (qf qF [(.i (z8 .i64 x1 1)),(.b x0),(.i x1),(.r x2),(.b x3),(.i x4),(.r x5)]) 3)),(.i (gI (qf qF [(.i (z8 .i64 x1 1)),(.b x0),(.i x1),(.r x2),(.b x3),(.i x4),(.r x5)]) 4)),(.r (gR (qf qF [(.i (z8 .i64 x1 1)),(.b x0),(.i x1),(.r x2),(.b x3),(.i x4),(.r x5)]) 5))])) (.leaf (0,[(.i (gI (qf qF [(.i (z8 .i64 x1 1)),(.b x0),(.i x1),(.r x2),(.b x3),(.i x4),(.r x5)]) 0)),(.b (gB (qf qF [(.i (z8 .i64 x1 1)),(.b x0),(.i x1),(.r x2),(.b x3),(.i x4),(.r x5)]) 1)),(.i (gI (qf qF [(.i (z8 .i64 x1 1)),(.b x0),(.i x1),(.r x2),(.b x3),(.i x4),(.r x5)]) 2)),(.r (gR (qf qF [(.i (z8 .i64 x1 1)),(.b x0),(.i x1),(.r x2),(.b x3),(.i x4),(.r x5)]) 3)),(.b (gB (qf qF [(.i (z8 .i64 x1 1)),(.b x0),(.i x1),(.r x2),(.b x3),(.i x4),(.r x5)]) 4)),(.i (gI (qf qF [(.i (z8 .i64 x1 1)),(.b x0),(.i x1),(.r x2),(.b x3),(.i x4),(.r x5)]) 5)),(.r (gR (qf qF [(.i (z8 .i64 x1 1)),(.b x0),(.i x1),(.r x2),(.b x3),(.i x4),(.r x5)]) 6))]))) .fail)):=by kernel_rfl
theorem qjN(x0:Bool)(x1:Int)(x2:R)(x3:Bool)(x4:Int)(x5:R):yp [.b x0,.i x1,.r x2,.b x3,.i x4,.r x5]=(.br (ilt x4 0) (.br (ilt (z8 .i64 x4 1) 0) (.br (ilt (z8 .i64 x4 1) 0) (.br (ilt 1 x4) (.leaf (0,[(.i 1),(.b x0),(.i x1),(.r x2),(.b x3),(.i x4),(.r x5)])) .fail) (.br (ile x4 (z8 .i64 x4 1)) (.br (ilt 1 x4) (.leaf (0,[(.i 1),(.b x0),(.i x1),(.r x2),(.b x3),(.i x4),(.r x5)])) .fail) (.br (inb (z8 .i64 x4 1) 232) (.br (inb (z8 .i64 x4 1) 232) (.br (ilt 1 x4) (.br (ine (qt .i64 (cI x5 (z8 .i64 x4 1) 0) 1) 0) (.br (ilt 0 (yH .i64 0 (qt .i64 (cI x5 (z8 .i64 x4 1) 0) 1))) (.leaf (0,[(.i (q8r (yH .i64 0 (qt .i64 (cI x5 (z8 .i64 x4 1) 0) 1)) 999999999)),(.b x0),(.i x1),(.r x2),(.b x3),(.i x4),(.r x5)])) (.leaf (0,[(.i 1),(.b x0),(.i x1),(.r x2),(.b x3),(.i x4),(.r x5)]))) .fail) (.br (ine (cI x5 (z8 .i64 x4 1) 0) 0) (.br (ilt 0 (yH .i64 0 (cI x5 (z8 .i64 x4 1) 0))) (.leaf (0,[(.i (q8r (yH .i64 0 (cI x5 (z8 .i64 x4 1) 0)) 999999999)),(.b x0),(.i x1),(.r x2),(.b x3),(.i x4),(.r x5)])) (.leaf (0,[(.i 1),(.b x0),(.i x1),(.r x2),(.b x3),(.i x4),(.r x5)]))) .fail)) .fail) .fail))) (.br (ile x1 (z8 .i64 x4 1)) (.br (ilt (z8 .i64 x4 1) 0) (.br (ilt 1 x4) (.leaf (0,[(.i 1),(.b x0),(.i x1),(.r x2),(.b x3),(.i x4),(.r x5)])) .fail) (.br (ile x4 (z8 .i64 x4 1)) (.br (ilt 1 x4) (.leaf (0,[(.i 1),(.b x0),(.i x1),(.r x2),(.b x3),(.i x4),(.r x5)])) .fail) (.br (inb (z8 .i64 x4 1) 232) (.br (inb (z8 .i64 x4 1) 232) (.br (ilt 1 x4) (.br (ine (qt .i64 (cI x5 (z8 .i64 x4 1) 0) 1) 0) (.br (ilt 0 (yH .i64 0 (qt .i64 (cI x5 (z8 .i64 x4 1) 0) 1))) (.leaf (0,[(.i (q8r (yH .i64 0 (qt .i64 (cI x5 (z8 .i64 x4 1) 0) 1)) 999999999)),(.b x0),(.i x1),(.r x2),(.b x3),(.i x4),(.r x5)])) (.leaf (0,[(.i 1),(.b x0),(.i x1),(.r x2),(.b x3),(.i x4),(.r x5)]))) .fail) (.br (ine (cI x5 (z8 .i64 x4 1) 0) 0) (.br (ilt 0 (yH .i64 0 (cI x5 (z8 .i64 x4 1) 0))) (.leaf (0,[(.i (q8r (yH .i64 0 (cI x5 (z8 .i64 x4 1) 0)) 999999999)),(.b x0),(.i x1),(.r x2),(.b x3),(.i x4),(.r x5)])) (.leaf (0,[(.i 1),(.b x0),(.i x1),(.r x2),(.b x3),(.i x4),(.r x5)]))) .fail)) .fail) .fail))) (.br (inb (z8 .i64 x4 1) 232) (.br (inb (z8 .i64 x4 1) 232) (.br (ilt (z8 .i64 x4 1) 0) (.br (ilt 1 x4) (.br (ilt 0 (yH .i64 (qt .i64 0 (cI x2 (z8 .i64 x4 1) 0)) 1)) (.leaf (0,[(.i (q8r (yH .i64 (qt .i64 0 (cI x2 (z8 .i64 x4 1) 0)) 1) 999999999)),(.b x0),(.i x1),(.r x2),(.b x3),(.i x4),(.r x5)])) (.leaf (0,[(.i 1),(.b x0),(.i x1),(.r x2),(.b x3),(.i x4),(.r x5)]))) .fail) (.br (ile x4 (z8 .i64 x4 1)) (.br (ilt 1 x4) (.br (ilt 0 (yH .i64 (qt .i64 0 (cI x2 (z8 .i64 x4 1) 0)) 1)) (.leaf (0,[(.i (q8r (yH .i64 (qt .i64 0 (cI x2 (z8 .i64 x4 1) 0)) 1) 999999999)),(.b x0),(.i x1),(.r x2),(.b x3),(.i x4),(.r x5)])) (.leaf (0,[(.i 1),(.b x0),(.i x1),(.r x2),(.b x3),(.i x4),(.r x5)]))) .fail) (.br (inb (z8 .i64 x4 1) 232) (.br (inb (z8 .i64 x4 1) 232) (.br (ilt 1 x4) (.br (ine (qt .i64 (cI x5 (z8 .i64 x4 1) 0) 1) 0) (.br (ilt 0 (yH .i64 (qt .i64 0 (cI x2 (z8 .i64 x4 1) 0)) (qt .i64 (cI x5 (z8 .i64 x4 1) 0) 1))) (.leaf (0,[(.i (q8r (yH .i64 (qt .i64 0 (cI x2 (z8 .i64 x4 1) 0)) (qt .i64 (cI x5 (z8 .i64 x4 1) 0) 1)) 999999999)),(.b x0),(.i x1),(.r x2),(.b x3),(.i x4),(.r x5)])) (.leaf (0,[(.i 1),(.b x0),(.i x1),(.r x2),(.b x3),(.i x4),(.r x5)]))) .fail) (.br (ine (cI x5 (z8 .i64 x4 1) 0) 0) (.br (ilt 0 (yH .i64 (qt .i64 0 (cI x2 (z8 .i64 x4 1) 0)) (cI x5 (z8 .i64 x4 1) 0))) (.leaf (0,[(.i (q8r (yH .i64 (qt .i64 0 (cI x2 (z8 .i64 x4 1) 0)) (cI x5 (z8 .i64 x4 1) 0)) 999999999)),(.b x0),(.i x1),(.r x2),(.b x3),(.i x4),(.r x5)])) (.leaf (0,[(.i 1),(.b x0),(.i x1),(.r x2),(.b x3),(.i x4),(.r x5)]))) .fail)) .fail) .fail))) .fail) .fail))) (.br (ile x1 x4) (.br (ilt (z8 .i64 x4 1) 0) (.br (ilt (z8 .i64 x4 1) 0) (.br (ilt 1 x4) (.leaf (0,[(.i 1),(.b x0),(.i x1),(.r x2),(.b x3),(.i x4),(.r x5)])) .fail) (.br (ile x4 (z8 .i64 x4 1)) (.br (ilt 1 x4) (.leaf (0,[(.i 1),(.b x0),(.i x1),(.r x2),(.b x3),(.i x4),(.r x5)])) .fail) (.br (inb (z8 .i64 x4 1) 232) (.br (inb (z8 .i64 x4 1) 232) (.br (ilt 1 x4) (.br (ine (qt .i64 (cI x5 (z8 .i64 x4 1) 0) 1) 0) (.br (ilt 0 (yH .i64 0 (qt .i64 (cI x5 (z8 .i64 x4 1) 0) 1))) (.leaf (0,[(.i (q8r (yH .i64 0 (qt .i64 (cI x5 (z8 .i64 x4 1) 0) 1)) 999999999)),(.b x0),(.i x1),(.r x2),(.b x3),(.i x4),(.r x5)])) (.leaf (0,[(.i 1),(.b x0),(.i x1),(.r x2),(.b x3),(.i x4),(.r x5)]))) .fail) (.br (ine (cI x5 (z8 .i64 x4 1) 0) 0) (.br (ilt 0 (yH .i64 0 (cI x5 (z8 .i64 x4 1) 0))) (.leaf (0,[(.i (q8r (yH .i64 0 (cI x5 (z8 .i64 x4 1) 0)) 999999999)),(.b x0),(.i x1),(.r x2),(.b x3),(.i x4),(.r x5)])) (.leaf (0,[(.i 1),(.b x0),(.i x1),(.r x2),(.b x3),(.i x4),(.r x5)]))) .fail)) .fail) .fail))) (.br (ile x1 (z8 .i64 x4 1)) (.br (ilt (z8 .i64 x4 1) 0) (.br (ilt 1 x4) (.leaf (0,[(.i 1),(.b x0),(.i x1),(.r x2),(.b x3),(.i x4),(.r x5)])) .fail) (.br (ile x4 (z8 .i64 x4 1)) (.br (ilt 1 x4) (.leaf (0,[(.i 1),(.b x0),(.i x1),(.r x2),(.b x3),(.i x4),(.r x5)])) .fail) (.br (inb (z8 .i64 x4 1) 232) (.br (inb (z8 .i64 x4 1) 232) (.br (ilt 1 x4) (.br (ine (qt .i64 (cI x5 (z8 .i64 x4 1) 0) 1) 0) (.br (ilt 0 (yH .i64 0 (qt .i64 (cI x5 (z8 .i64 x4 1) 0) 1))) (.leaf (0,[(.i (q8r (yH .i64 0 (qt .i64 (cI x5 (z8 .i64 x4 1) 0) 1)) 999999999)),(.b x0),(.i x1),(.r x2),(.b x3),(.i x4),(.r x5)])) (.leaf (0,[(.i 1),(.b x0),(.i x1),(.r x2),(.b x3),(.i x4),(.r x5)]))) .fail) (.br (ine (cI x5 (z8 .i64 x4 1) 0) 0) (.br (ilt 0 (yH .i64 0 (cI x5 (z8 .i64 x4 1) 0))) (.leaf (0,[(.i (q8r (yH .i64 0 (cI x5 (z8 .i64 x4 1) 0)) 999999999)),(.b x0),(.i x1),(.r x2),(.b x3),(.i x4),(.r x5)])) (.leaf (0,[(.i 1),(.b x0),(.i x1),(.r x2),(.b x3),(.i x4),(.r x5)]))) .fail)) .fail) .fail))) (.br (inb (z8 .i64 x4 1) 232) (.br (inb (z8 .i64 x4 1) 232) (.br (ilt (z8 .i64 x4 1) 0) (.br (ilt 1 x4) (.br (ilt 0 (yH .i64 (qt .i64 0 (cI x2 (z8 .i64 x4 1) 0)) 1)) (.leaf (0,[(.i (q8r (yH .i64 (qt .i64 0 (cI x2 (z8 .i64 x4 1) 0)) 1) 999999999)),(.b x0),(.i x1),(.r x2),(.b x3),(.i x4),(.r x5)])) (.leaf (0,[(.i 1),(.b x0),(.i x1),(.r x2),(.b x3),(.i x4),(.r x5)]))) .fail) (.br (ile x4 (z8 .i64 x4 1)) (.br (ilt 1 x4) (.br (ilt 0 (yH .i64 (qt .i64 0 (cI x2 (z8 .i64 x4 1) 0)) 1)) (.leaf (0,[(.i (q8r (yH .i64 (qt .i64 0 (cI x2 (z8 .i64 x4 1) 0)) 1) 999999999)),(.b x0),(.i x1),(.r x2),(.b x3),(.i x4),(.r x5)])) (.leaf (0,[(.i 1),(.b x0),(.i x1),(.r x2),(.b x3),(.i x4),(.r x5)]))) .fail) (.br (inb (z8 .i64 x4 1) 232) (.br (inb (z8 .i64 x4 1) 232) (.br (ilt 1 x4) (.br (ine (qt .i64 (cI x5 (z8 .i64 x4 1) 0) 1) 0) (.br (ilt 0 (yH .i64 (qt .i64 0 (cI x2 (z8 .i64 x4 1) 0)) (qt .i64 (cI x5 (z8 .i64 x4 1) 0) 1))) (.leaf (0,[(.i (q8r (yH .i64 (qt .i64 0 (cI x2 (z8 .i64 x4 1) 0)) (qt .i64 (cI x5 (z8 .i64 x4 1) 0) 1)) 999999999)),(.b x0),(.i x1),(.r x2),(.b x3),(.i x4),(.r x5)])) (.leaf (0,[(.i 1),(.b x0),(.i x1),(.r x2),(.b x3),(.i x4),(.r x5)]))) .fail) (.br (ine (cI x5 (z8 .i64 x4 1) 0) 0) (.br (ilt 0 (yH .i64 (qt .i64 0 (cI x2 (z8 .i64 x4 1) 0)) (cI x5 (z8 .i64 x4 1) 0))) (.leaf (0,[(.i (q8r (yH .i64 (qt .i64 0 (cI x2 (z8 .i64 x4 1) 0)) (cI x5 (z8 .i64 x4 1) 0)) 999999999)),(.b x0),(.i x1),(.r x2),(.b x3),(.i x4),(.r x5)])) (.leaf (0,[(.i 1),(.b x0),(.i x1),(.r x2),(.b x3),(.i x4),(.r x5)]))) .fail)) .fail) .fail))) .fail) .fail))) (.br (inb x4 232) (.br (inb x4 232) (.br (ilt (z8 .i64 x4 1) 0) (.br (ilt (z8 .i64 x4 1) 0) (.br (ilt 1 x4) (.br (ilt 0 (yH .i64 (qt .i64 (q0Q .i64 (cI x2 x4 0) 1000000000) 0) 1)) (.leaf (0,[(.i (q8r (yH .i64 (qt .i64 (q0Q .i64 (cI x2 x4 0) 1000000000) 0) 1) 999999999)),(.b x0),(.i x1),(.r x2),(.b x3),(.i x4),(.r x5)])) (.leaf (0,[(.i 1),(.b x0),(.i x1),(.r x2),(.b x3),(.i x4),(.r x5)]))) .fail) (.br (ile x4 (z8 .i64 x4 1)) (.br (ilt 1 x4) (.br (ilt 0 (yH .i64 (qt .i64 (q0Q .i64 (cI x2 x4 0) 1000000000) 0) 1)) (.leaf (0,[(.i (q8r (yH .i64 (qt .i64 (q0Q .i64 (cI x2 x4 0) 1000000000) 0) 1) 999999999)),(.b x0),(.i x1),(.r x2),(.b x3),(.i x4),(.r x5)])) (.leaf (0,[(.i 1),(.b x0),(.i x1),(.r x2),(.b x3),(.i x4),(.r x5)]))) .fail) (.br (inb (z8 .i64 x4 1) 232) (.br (inb (z8 .i64 x4 1) 232) (.br (ilt 1 x4) (.br (ine (qt .i64 (cI x5 (z8 .i64 x4 1) 0) 1) 0) (.br (ilt 0 (yH .i64 (qt .i64 (q0Q .i64 (cI x2 x4 0) 1000000000) 0) (qt .i64 (cI x5 (z8 .i64 x4 1) 0) 1))) (.leaf (0,[(.i (q8r (yH .i64 (qt .i64 (q0Q .i64 (cI x2 x4 0) 1000000000) 0) (qt .i64 (cI x5 (z8 .i64 x4 1) 0) 1)) 999999999)),(.b x0),(.i x1),(.r x2),(.b x3),(.i x4),(.r x5)])) (.leaf (0,[(.i 1),(.b x0),(.i x1),(.r x2),(.b x3),(.i x4),(.r x5)]))) .fail) (.br (ine (cI x5 (z8 .i64 x4 1) 0) 0) (.br (ilt 0 (yH .i64 (qt .i64 (q0Q .i64 (cI x2 x4 0) 1000000000) 0) (cI x5 (z8 .i64 x4 1) 0))) (.leaf (0,[(.i (q8r (yH .i64 (qt .i64 (q0Q .i64 (cI x2 x4 0) 1000000000) 0) (cI x5 (z8 .i64 x4 1) 0)) 999999999)),(.b x0),(.i x1),(.r x2),(.b x3),(.i x4),(.r x5)])) (.leaf (0,[(.i 1),(.b x0),(.i x1),(.r x2),(.b x3),(.i x4),(.r x5)]))) .fail)) .fail) .fail))) (.br (ile x1 (z8 .i64 x4 1)) (.br (ilt (z8 .i64 x4 1) 0) (.br (ilt 1 x4) (.br (ilt 0 (yH .i64 (qt .i64 (q0Q .i64 (cI x2 x4 0) 1000000000) 0) 1)) (.leaf (0,[(.i (q8r (yH .i64 (qt .i64 (q0Q .i64 (cI x2 x4 0) 1000000000) 0) 1) 999999999)),(.b x0),(.i x1),(.r x2),(.b x3),(.i x4),(.r x5)])) (.leaf (0,[(.i 1),(.b x0),(.i x1),(.r x2),(.b x3),(.i x4),(.r x5)]))) .fail) (.br (ile x4 (z8 .i64 x4 1)) (.br (ilt 1 x4) (.br (ilt 0 (yH .i64 (qt .i64 (q0Q .i64 (cI x2 x4 0) 1000000000) 0) 1)) (.leaf (0,[(.i (q8r (yH .i64 (qt .i64 (q0Q .i64 (cI x2 x4 0) 1000000000) 0) 1) 999999999)),(.b x0),(.i x1),(.r x2),(.b x3),(.i x4),(.r x5)])) (.leaf (0,[(.i 1),(.b x0),(.i x1),(.r x2),(.b x3),(.i x4),(.r x5)]))) .fail) (.br (inb (z8 .i64 x4 1) 232) (.br (inb (z8 .i64 x4 1) 232) (.br (ilt 1 x4) (.br (ine (qt .i64 (cI x5 (z8 .i64 x4 1) 0) 1) 0) (.br (ilt 0 (yH .i64 (qt .i64 (q0Q .i64 (cI x2 x4 0) 1000000000) 0) (qt .i64 (cI x5 (z8 .i64 x4 1) 0) 1))) (.leaf (0,[(.i (q8r (yH .i64 (qt .i64 (q0Q .i64 (cI x2 x4 0) 1000000000) 0) (qt .i64 (cI x5 (z8 .i64 x4 1) 0) 1)) 999999999)),(.b x0),(.i x1),(.r x2),(.b x3),(.i x4),(.r x5)])) (.leaf (0,[(.i 1),(.b x0),(.i x1),(.r x2),(.b x3),(.i x4),(.r x5)]))) .fail) (.br (ine (cI x5 (z8 .i64 x4 1) 0) 0) (.br (ilt 0 (yH .i64 (qt .i64 (q0Q .i64 (cI x2 x4 0) 1000000000) 0) (cI x5 (z8 .i64 x4 1) 0))) (.leaf (0,[(.i (q8r (yH .i64 (qt .i64 (q0Q .i64 (cI x2 x4 0) 1000000000) 0) (cI x5 (z8 .i64 x4 1) 0)) 999999999)),(.b x0),(.i x1),(.r x2),(.b x3),(.i x4),(.r x5)])) (.leaf (0,[(.i 1),(.b x0),(.i x1),(.r x2),(.b x3),(.i x4),(.r x5)]))) .fail)) .fail) .fail))) (.br (inb (z8 .i64 x4 1) 232) (.br (inb (z8 .i64 x4 1) 232) (.br (ilt (z8 .i64 x4 1) 0) (.br (ilt 1 x4) (.br (ilt 0 (yH .i64 (qt .i64 (q0Q .i64 (cI x2 x4 0) 1000000000) (cI x2 (z8 .i64 x4 1) 0)) 1)) (.leaf (0,[(.i (q8r (yH .i64 (qt .i64 (q0Q .i64 (cI x2 x4 0) 1000000000) (cI x2 (z8 .i64 x4 1) 0)) 1) 999999999)),(.b x0),(.i x1),(.r x2),(.b x3),(.i x4),(.r x5)])) (.leaf (0,[(.i 1),(.b x0),(.i x1),(.r x2),(.b x3),(.i x4),(.r x5)]))) .fail) (.br (ile x4 (z8 .i64 x4 1)) (.br (ilt 1 x4) (.br (ilt 0 (yH .i64 (qt .i64 (q0Q .i64 (cI x2 x4 0) 1000000000) (cI x2 (z8 .i64 x4 1) 0)) 1)) (.leaf (0,[(.i (q8r (yH .i64 (qt .i64 (q0Q .i64 (cI x2 x4 0) 1000000000) (cI x2 (z8 .i64 x4 1) 0)) 1) 999999999)),(.b x0),(.i x1),(.r x2),(.b x3),(.i x4),(.r x5)])) (.leaf (0,[(.i 1),(.b x0),(.i x1),(.r x2),(.b x3),(.i x4),(.r x5)]))) .fail) (.br (inb (z8 .i64 x4 1) 232) (.br (inb (z8 .i64 x4 1) 232) (.br (ilt 1 x4) (.br (ine (qt .i64 (cI x5 (z8 .i64 x4 1) 0) 1) 0) (.br (ilt 0 (yH .i64 (qt .i64 (q0Q .i64 (cI x2 x4 0) 1000000000) (cI x2 (z8 .i64 x4 1) 0)) (qt .i64 (cI x5 (z8 .i64 x4 1) 0) 1))) (.leaf (0,[(.i (q8r (yH .i64 (qt .i64 (q0Q .i64 (cI x2 x4 0) 1000000000) (cI x2 (z8 .i64 x4 1) 0)) (qt .i64 (cI x5 (z8 .i64 x4 1) 0) 1)) 999999999)),(.b x0),(.i x1),(.r x2),(.b x3),(.i x4),(.r x5)])) (.leaf (0,[(.i 1),(.b x0),(.i x1),(.r x2),(.b x3),(.i x4),(.r x5)]))) .fail) (.br (ine (cI x5 (z8 .i64 x4 1) 0) 0) (.br (ilt 0 (yH .i64 (qt .i64 (q0Q .i64 (cI x2 x4 0) 1000000000) (cI x2 (z8 .i64 x4 1) 0)) (cI x5 (z8 .i64 x4 1) 0))) (.leaf (0,[(.i (q8r (yH .i64 (qt .i64 (q0Q .i64 (cI x2 x4 0) 1000000000) (cI x2 (z8 .i64 x4 1) 0)) (cI x5 (z8 .i64 x4 1) 0)) 999999999)),(.b x0),(.i x1),(.r x2),(.b x3),(.i x4),(.r x5)])) (.leaf (0,[(.i 1),(.b x0),(.i x1),(.r x2),(.b x3),(.i x4),(.r x5)]))) .fail)) .fail) .fail))) .fail) .fail))) .fail) .fail))):=by kernel_rfl
theorem q6w(y0:Int)(y1:Int)(y2:Int)(y3:Int)(y4:Bool)(y5:Int)(y6:R)(y7:Bool)(y8:Int)(y9:R):qC [.i y0,.i y1,.i y2,.i y3,.b y4,.i y5,.r y6,.b y7,.i y8,.r y9]=(.br (ilt y3 y8) (.br (inb (qt .i64 y3 y1) 232) (.br (inb (qt .i64 y3 y1) 232) (.br (ilt y3 y8) (.br (inb y3 232) (.br (inb y3 232) (.br (ilt (z8 .i64 (qt .i64 (qt .i64 (cI y6 (qt .i64 y3 y1) 0) y2) (q0Q .i64 y0 (cI y9 y3 0))) (q0Q .i64 (yH .i64 (qt .i64 (qt .i64 (cI y6 (qt .i64 y3 y1) 0) y2) (q0Q .i64 y0 (cI y9 y3 0))) 1000000000) 1000000000)) 0) (.br (inb (qt .i64 y3 y1) 232) (.br (inb (qt .i64 y3 y1) 232) (.leaf (0,[(.i y0),(.i y1),(.i (z8 .i64 (yH .i64 (qt .i64 (qt .i64 (cI y6 (qt .i64 y3 y1) 0) y2) (q0Q .i64 y0 (cI y9 y3 0))) 1000000000) 1)),(.i (qt .i64 y3 1)),(.b y4),(.i (q8m y5 (qt .i64 (qt .i64 y3 y1) 1))),(.r (qbN y6 (qt .i64 y3 y1) 0 [(.i (qt .i64 (z8 .i64 (qt .i64 (qt .i64 (cI y6 (qt .i64 y3 y1) 0) y2) (q0Q .i64 y0 (cI y9 y3 0))) (q0Q .i64 (yH .i64 (qt .i64 (qt .i64 (cI y6 (qt .i64 y3 y1) 0) y2) (q0Q .i64 y0 (cI y9 y3 0))) 1000000000) 1000000000)) 1000000000))])),(.b y7),(.i y8),(.r y9)])) .fail) .fail) (.br (inb (qt .i64 y3 y1) 232) (.br (inb (qt .i64 y3 y1) 232) (.leaf (0,[(.i y0),(.i y1),(.i (yH .i64 (qt .i64 (qt .i64 (cI y6 (qt .i64 y3 y1) 0) y2) (q0Q .i64 y0 (cI y9 y3 0))) 1000000000)),(.i (qt .i64 y3 1)),(.b y4),(.i (q8m y5 (qt .i64 (qt .i64 y3 y1) 1))),(.r (qbN y6 (qt .i64 y3 y1) 0 [(.i (z8 .i64 (qt .i64 (qt .i64 (cI y6 (qt .i64 y3 y1) 0) y2) (q0Q .i64 y0 (cI y9 y3 0))) (q0Q .i64 (yH .i64 (qt .i64 (qt .i64 (cI y6 (qt .i64 y3 y1) 0) y2) (q0Q .i64 y0 (cI y9 y3 0))) 1000000000) 1000000000)))])),(.b y7),(.i y8),(.r y9)])) .fail) .fail)) .fail) .fail) (.br (ilt (z8 .i64 (qt .i64 (cI y6 (qt .i64 y3 y1) 0) y2) (q0Q .i64 (yH .i64 (qt .i64 (cI y6 (qt .i64 y3 y1) 0) y2) 1000000000) 1000000000)) 0) (.br (inb (qt .i64 y3 y1) 232) (.br (inb (qt .i64 y3 y1) 232) (.leaf (0,[(.i y0),(.i y1),(.i (z8 .i64 (yH .i64 (qt .i64 (cI y6 (qt .i64 y3 y1) 0) y2) 1000000000) 1)),(.i (qt .i64 y3 1)),(.b y4),(.i (q8m y5 (qt .i64 (qt .i64 y3 y1) 1))),(.r (qbN y6 (qt .i64 y3 y1) 0 [(.i (qt .i64 (z8 .i64 (qt .i64 (cI y6 (qt .i64 y3 y1) 0) y2) (q0Q .i64 (yH .i64 (qt .i64 (cI y6 (qt .i64 y3 y1) 0) y2) 1000000000) 1000000000)) 1000000000))])),(.b y7),(.i y8),(.r y9)])) .fail) .fail) (.br (inb (qt .i64 y3 y1) 232) (.br (inb (qt .i64 y3 y1) 232) (.leaf (0,[(.i y0),(.i y1),(.i (yH .i64 (qt .i64 (cI y6 (qt .i64 y3 y1) 0) y2) 1000000000)),(.i (qt .i64 y3 1)),(.b y4),(.i (q8m y5 (qt .i64 (qt .i64 y3 y1) 1))),(.r (qbN y6 (qt .i64 y3 y1) 0 [(.i (z8 .i64 (qt .i64 (cI y6 (qt .i64 y3 y1) 0) y2) (q0Q .i64 (yH .i64 (qt .i64 (cI y6 (qt .i64 y3 y1) 0) y2) 1000000000) 1000000000)))])),(.b y7),(.i y8),(.r y9)])) .fail) .fail))) .fail) .fail) (.br (ine y2 0) (.br (inb (qt .i64 y3 y1) 232) (.br (inb (qt .i64 y3 y1) 232) (.br (ilt y3 y8) (.br (inb y3 232) (.br (inb y3 232) (.br (ilt (z8 .i64 (qt .i64 (qt .i64 (cI y6 (qt .i64 y3 y1) 0) y2) (q0Q .i64 y0 (cI y9 y3 0))) (q0Q .i64 (yH .i64 (qt .i64 (qt .i64 (cI y6 (qt .i64 y3 y1) 0) y2) (q0Q .i64 y0 (cI y9 y3 0))) 1000000000) 1000000000)) 0) (.br (inb (qt .i64 y3 y1) 232) (.br (inb (qt .i64 y3 y1) 232) (.leaf (0,[(.i y0),(.i y1),(.i (z8 .i64 (yH .i64 (qt .i64 (qt .i64 (cI y6 (qt .i64 y3 y1) 0) y2) (q0Q .i64 y0 (cI y9 y3 0))) 1000000000) 1)),(.i (qt .i64 y3 1)),(.b y4),(.i (q8m y5 (qt .i64 (qt .i64 y3 y1) 1))),(.r (qbN y6 (qt .i64 y3 y1) 0 [(.i (qt .i64 (z8 .i64 (qt .i64 (qt .i64 (cI y6 (qt .i64 y3 y1) 0) y2) (q0Q .i64 y0 (cI y9 y3 0))) (q0Q .i64 (yH .i64 (qt .i64 (qt .i64 (cI y6 (qt .i64 y3 y1) 0) y2) (q0Q .i64 y0 (cI y9 y3 0))) 1000000000) 1000000000)) 1000000000))])),(.b y7),(.i y8),(.r y9)])) .fail) .fail) (.br (inb (qt .i64 y3 y1) 232) (.br (inb (qt .i64 y3 y1) 232) (.leaf (0,[(.i y0),(.i y1),(.i (yH .i64 (qt .i64 (qt .i64 (cI y6 (qt .i64 y3 y1) 0) y2) (q0Q .i64 y0 (cI y9 y3 0))) 1000000000)),(.i (qt .i64 y3 1)),(.b y4),(.i (q8m y5 (qt .i64 (qt .i64 y3 y1) 1))),(.r (qbN y6 (qt .i64 y3 y1) 0 [(.i (z8 .i64 (qt .i64 (qt .i64 (cI y6 (qt .i64 y3 y1) 0) y2) (q0Q .i64 y0 (cI y9 y3 0))) (q0Q .i64 (yH .i64 (qt .i64 (qt .i64 (cI y6 (qt .i64 y3 y1) 0) y2) (q0Q .i64 y0 (cI y9 y3 0))) 1000000000) 1000000000)))])),(.b y7),(.i y8),(.r y9)])) .fail) .fail)) .fail) .fail) (.br (ilt (z8 .i64 (qt .i64 (cI y6 (qt .i64 y3 y1) 0) y2) (q0Q .i64 (yH .i64 (qt .i64 (cI y6 (qt .i64 y3 y1) 0) y2) 1000000000) 1000000000)) 0) (.br (inb (qt .i64 y3 y1) 232) (.br (inb (qt .i64 y3 y1) 232) (.leaf (0,[(.i y0),(.i y1),(.i (z8 .i64 (yH .i64 (qt .i64 (cI y6 (qt .i64 y3 y1) 0) y2) 1000000000) 1)),(.i (qt .i64 y3 1)),(.b y4),(.i (q8m y5 (qt .i64 (qt .i64 y3 y1) 1))),(.r (qbN y6 (qt .i64 y3 y1) 0 [(.i (qt .i64 (z8 .i64 (qt .i64 (cI y6 (qt .i64 y3 y1) 0) y2) (q0Q .i64 (yH .i64 (qt .i64 (cI y6 (qt .i64 y3 y1) 0) y2) 1000000000) 1000000000)) 1000000000))])),(.b y7),(.i y8),(.r y9)])) .fail) .fail) (.br (inb (qt .i64 y3 y1) 232) (.br (inb (qt .i64 y3 y1) 232) (.leaf (0,[(.i y0),(.i y1),(.i (yH .i64 (qt .i64 (cI y6 (qt .i64 y3 y1) 0) y2) 1000000000)),(.i (qt .i64 y3 1)),(.b y4),(.i (q8m y5 (qt .i64 (qt .i64 y3 y1) 1))),(.r (qbN y6 (qt .i64 y3 y1) 0 [(.i (z8 .i64 (qt .i64 (cI y6 (qt .i64 y3 y1) 0) y2) (q0Q .i64 (yH .i64 (qt .i64 (cI y6 (qt .i64 y3 y1) 0) y2) 1000000000) 1000000000)))])),(.b y7),(.i y8),(.r y9)])) .fail) .fail))) .fail) .fail) (.leaf (1,[(.b y4),(.i y5),(.r y6),(.b y7),(.i y8),(.r y9)])))):=by kernel_rfl
theorem qh3(x0:Int)(x1:Int)(x2:Bool)(x3:Int)(x4:R)(x5:Bool)(x6:Int)(x7:R):qN [.i x0,.i x1,.b x2,.i x3,.r x4,.b x5,.i x6,.r x7]=(.br (okR (qf qC [(.i x0),(.i x1),(.i 0),(.i 0),(.b x2),(.i x3),(.r x4),(.b x5),(.i x6),(.r x7)])) (.br (okR (qG [(.b (gB (qf qC [(.i x0),(.i x1),(.i 0),(.i 0),(.b x2),(.i x3),(.r x4),(.b x5),(.i x6),(.r x7)]) 0)),(.i (gI (qf qC [(.i x0),(.i x1),(.i 0),(.i 0),(.b x2),(.i x3),(.r x4),(.b x5),(.i x6),(.r x7)]) 1)),(.r (gR (qf qC [(.i x0),(.i x1),(.i 0),(.i 0),(.b x2),(.i x3),(.r x4),(.b x5),(.i x6),(.r x7)]) 2))])) (.leaf (0,[(.b (gB (qG [(.b (gB (qf qC [(.i x0),(.i x1),(.i 0),(.i 0),(.b x2),(.i x3),(.r x4),(.b x5),(.i x6),(.r x7)]) 0)),(.i (gI (qf qC [(.i x0),(.i x1),(.i 0),(.i 0),(.b x2),(.i x3),(.r x4),(.b x5),(.i x6),(.r x7)]) 1)),(.r (gR (qf qC [(.i x0),(.i x1),(.i 0),(.i 0),(.b x2),(.i x3),(.r x4),(.b x5),(.i x6),(.r x7)]) 2))]) 0)),(.i (gI (qG [(.b (gB (qf qC [(.i x0),(.i x1),(.i 0),(.i 0),(.b x2),(.i x3),(.r x4),(.b x5),(.i x6),(.r x7)]) 0)),(.i (gI (qf qC [(.i x0),(.i x1),(.i 0),(.i 0),(.b x2),(.i x3),(.r x4),(.b x5),(.i x6),(.r x7)]) 1)),(.r (gR (qf qC [(.i x0),(.i x1),(.i 0),(.i 0),(.b x2),(.i x3),(.r x4),(.b x5),(.i x6),(.r x7)]) 2))]) 1)),(.r (gR (qG [(.b (gB (qf qC [(.i x0),(.i x1),(.i 0),(.i 0),(.b x2),(.i x3),(.r x4),(.b x5),(.i x6),(.r x7)]) 0)),(.i (gI (qf qC [(.i x0),(.i x1),(.i 0),(.i 0),(.b x2),(.i x3),(.r x4),(.b x5),(.i x6),(.r x7)]) 1)),(.r (gR (qf qC [(.i x0),(.i x1),(.i 0),(.i 0),(.b x2),(.i x3),(.r x4),(.b x5),(.i x6),(.r x7)]) 2))]) 2)),(.b (gB (qf qC [(.i x0),(.i x1),(.i 0),(.i 0),(.b x2),(.i x3),(.r x4),(.b x5),(.i x6),(.r x7)]) 3)),(.i (gI (qf qC [(.i x0),(.i x1),(.i 0),(.i 0),(.b x2),(.i x3),(.r x4),(.b x5),(.i x6),(.r x7)]) 4)),(.r (gR (qf qC [(.i x0),(.i x1),(.i 0),(.i 0),(.b x2),(.i x3),(.r x4),(.b x5),(.i x6),(.r x7)]) 5))])) .fail) .fail):=by kernel_rfl
theorem qgZ(y0:Int)(y1:Int)(y2:Bool)(y3:Int)(y4:R)(y5:Bool)(y6:Int)(y7:R)(y8:Bool)(y9:Int)(y10:R)(y11:Bool)(y12:Int)(y13:R):yb [.i y0,.i y1,.b y2,.i y3,.r y4,.b y5,.i y6,.r y7,.b y8,.i y9,.r y10,.b y11,.i y12,.r y13]=(let r0:TR:=(wG [(.b y11),(.i y12),(.r y13),(.b y5),(.i y6),(.r y7)])
 .br (okR r0) (.br (ile 0 (gI r0 0)) (let r1:TR:=(yp [(.b (gB r0 1)),(.i (gI r0 2)),(.r (gR r0 3)),(.b (gB r0 4)),(.i (gI r0 5)),(.r (gR r0 6))])
 .br (okR r1) (let r2:TR:=(qN [(.i (z8 .i64 0 (gI r1 0))),(.i 0),(.b (gB r1 1)),(.i (gI r1 2)),(.r (gR r1 3)),(.b (gB r1 4)),(.i (gI r1 5)),(.r (gR r1 6))])
 .br (okR r2) (.leaf (0,[(.i y0),(.i (qt .i64 y1 (gI r1 0))),(.b y2),(.i y3),(.r y4),(.b (gB r2 3)),(.i (gI r2 4)),(.r (gR r2 5)),(.b y8),(.i y9),(.r y10),(.b (gB r2 0)),(.i (gI r2 1)),(.r (gR r2 2))])) .fail) .fail) (.leaf (1,[(.i y0),(.i y1),(.b y2),(.i y3),(.r y4),(.b (gB r0 4)),(.i (gI r0 5)),(.r (gR r0 6)),(.b y8),(.i y9),(.r y10),(.b (gB r0 1)),(.i (gI r0 2)),(.r (gR r0 3))]))) .fail):=by kernel_rfl
theorem qis(y0:Int)(y1:Bool)(y2:Int)(y3:R)(y4:Bool)(y5:Int)(y6:R)(y7:Bool)(y8:Int)(y9:R)(y10:Bool)(y11:Int)(y12:R):q0c [.i y0,.b y1,.i y2,.r y3,.b y4,.i y5,.r y6,.b y7,.i y8,.r y9,.b y10,.i y11,.r y12]=(.br (ile 0 y0) (.br (q6E 232 232) (.br (q6E 1 232) (.br (q6E y11 232) (.br (q6E 0 y11) (.br (inb y0 232) (.br (inb y0 232) (let r0:TR:=(qG [(.b y10),(.i (qt .i64 y11 1)),(.r (qbN (qh7 y12 1 y12 0 (q8r (qrs y11 0) (qrs 232 1))) 0 0 [(.i (cI y3 y0 0))]))])
 .br (okR r0) (let r1:TR:=(qf yb [(.i y0),(.i 0),(.b y1),(.i y2),(.r y3),(.b y4),(.i y5),(.r y6),(.b y7),(.i y8),(.r y9),(.b (gB r0 0)),(.i (gI r0 1)),(.r (gR r0 2))])
 .br (okR r1) (.br (inb (gI r1 0) 232) (.br (inb (gI r1 0) 232) (.leaf (0,[(.i (z8 .i64 (gI r1 0) 1)),(.b (gB r1 2)),(.i (gI r1 3)),(.r (gR r1 4)),(.b (gB r1 5)),(.i (gI r1 6)),(.r (gR r1 7)),(.b (gB r1 8)),(.i (q8m (gI r1 9) (qt .i64 (gI r1 0) 1))),(.r (qbN (gR r1 10) (gI r1 0) 0 [(.i (gI r1 1))])),(.b (gB r1 11)),(.i (gI r1 12)),(.r (gR r1 13))])) .fail) .fail) .fail) .fail) .fail) .fail) .fail) .fail) .fail) .fail) (.leaf (1,[(.b y1),(.i y2),(.r y3),(.b y4),(.i y5),(.r y6),(.b y7),(.i y8),(.r y9),(.b y10),(.i y11),(.r y12)]))):=by kernel_rfl
theorem qkF(x0:Bool)(x1:Int)(x2:R)(x3:Bool)(x4:Int)(x5:R):qX [.b x0,.i x1,.r x2,.b x3,.i x4,.r x5]=(let r0:TR:=(qf q0c [(.i (z8 .i64 x1 1)),(.b x0),(.i x1),(.r x2),(.b x3),(.i x4),(.r x5),(.b false),(.i 0),(.r (zK 232 [(.i 0)])),(.b false),(.i 0),(.r (zK 232 [(.i 0)]))])
 .br (okR r0) (let r1:TR:=(qG [(.b (gB r0 6)),(.i (gI r0 7)),(.r (gR r0 8))])
 .br (okR r1) (.leaf (0,[(.b (gB r0 0)),(.i (gI r0 1)),(.r (gR r0 2)),(.b (gB r0 3)),(.i (gI r0 4)),(.r (gR r0 5)),(.b (gB r1 0)),(.i (gI r1 1)),(.r (gR r1 2)),(.b (gB r0 9)),(.i (gI r0 10)),(.r (gR r0 11))])) .fail) .fail):=by kernel_rfl
theorem qmF(y0:Int)(y1:Int):yM [.i y0,.i y1]=(.br (ine y1 0) (.br (ine y1 0) (.leaf (0,[(.i y1),(.i (q5s y0 y1))])) .fail) (.leaf (1,[(.i y0)]))):=by kernel_rfl
theorem qnz(y0:Bool)(y1:Int)(y2:R)(y3:Bool)(y4:Int)(y5:R):vL [.b y0,.i y1,.r y2,.b y3,.i y4,.r y5]=(.br (ilt 0 y4) (.br (ile y1 1) (.br (ile y4 1) (.br (okR (qf yM [(.i (cI y2 0 0)),(.i (cI y5 0 0))])) (.br (okR (vm [(.i (gI (qf yM [(.i (cI y2 0 0)),(.i (cI y5 0 0))]) 0))])) (.leaf (2,[(.s (gS (vm [(.i (gI (qf yM [(.i (cI y2 0 0)),(.i (cI y5 0 0))]) 0))]) 0)),(.i 0)])) .fail) .fail) (.br (okR (qX [(.b y0),(.i y1),(.r y2),(.b y3),(.i y4),(.r y5)])) (.leaf (0,[(.b (gB (qX [(.b y0),(.i y1),(.r y2),(.b y3),(.i y4),(.r y5)]) 3)),(.i (gI (qX [(.b y0),(.i y1),(.r y2),(.b y3),(.i y4),(.r y5)]) 4)),(.r (gR (qX [(.b y0),(.i y1),(.r y2),(.b y3),(.i y4),(.r y5)]) 5)),(.b (gB (qX [(.b y0),(.i y1),(.r y2),(.b y3),(.i y4),(.r y5)]) 9)),(.i (gI (qX [(.b y0),(.i y1),(.r y2),(.b y3),(.i y4),(.r y5)]) 10)),(.r (gR (qX [(.b y0),(.i y1),(.r y2),(.b y3),(.i y4),(.r y5)]) 11))])) .fail)) (.br (okR (qX [(.b y0),(.i y1),(.r y2),(.b y3),(.i y4),(.r y5)])) (.leaf (0,[(.b (gB (qX [(.b y0),(.i y1),(.r y2),(.b y3),(.i y4),(.r y5)]) 3)),(.i (gI (qX [(.b y0),(.i y1),(.r y2),(.b y3),(.i y4),(.r y5)]) 4)),(.r (gR (qX [(.b y0),(.i y1),(.r y2),(.b y3),(.i y4),(.r y5)]) 5)),(.b (gB (qX [(.b y0),(.i y1),(.r y2),(.b y3),(.i y4),(.r y5)]) 9)),(.i (gI (qX [(.b y0),(.i y1),(.r y2),(.b y3),(.i y4),(.r y5)]) 10)),(.r (gR (qX [(.b y0),(.i y1),(.r y2),(.b y3),(.i y4),(.r y5)]) 11))])) .fail)) (.leaf (1,[(.b y0),(.i y1),(.r y2)]))):=by kernel_rfl
theorem qr5(x0:List UInt8)(x1:List UInt8):jd [.s x0,.s x1]=(.br (okR (zo [(.r [[(.s x0)],[(.s x1)]])])) (.br (ine (gI (zo [(.r [[(.s x0)],[(.s x1)]])]) 0) 0) (.leaf (0,[(.s []),(.i (gI (zo [(.r [[(.s x0)],[(.s x1)]])]) 0))])) (.br (okR (qk [(.s x0)])) (.br (okR (qk [(.s x1)])) (.br (okR (qf vL [(.b (gB (qk [(.s x0)]) 0)),(.i (gI (qk [(.s x0)]) 1)),(.r (gR (qk [(.s x0)]) 2)),(.b (gB (qk [(.s x1)]) 0)),(.i (gI (qk [(.s x1)]) 1)),(.r (gR (qk [(.s x1)]) 2))])) (.br (jIs (qf vL [(.b (gB (qk [(.s x0)]) 0)),(.i (gI (qk [(.s x0)]) 1)),(.r (gR (qk [(.s x0)]) 2)),(.b (gB (qk [(.s x1)]) 0)),(.i (gI (qk [(.s x1)]) 1)),(.r (gR (qk [(.s x1)]) 2))]) 0) (.br (okR (qB [(.b false),(.i (gI (qf vL [(.b (gB (qk [(.s x0)]) 0)),(.i (gI (qk [(.s x0)]) 1)),(.r (gR (qk [(.s x0)]) 2)),(.b (gB (qk [(.s x1)]) 0)),(.i (gI (qk [(.s x1)]) 1)),(.r (gR (qk [(.s x1)]) 2))]) 1)),(.r (gR (qf vL [(.b (gB (qk [(.s x0)]) 0)),(.i (gI (qk [(.s x0)]) 1)),(.r (gR (qk [(.s x0)]) 2)),(.b (gB (qk [(.s x1)]) 0)),(.i (gI (qk [(.s x1)]) 1)),(.r (gR (qk [(.s x1)]) 2))]) 2))])) (.leaf (0,[(.s (gS (qB [(.b false),(.i (gI (qf vL [(.b (gB (qk [(.s x0)]) 0)),(.i (gI (qk [(.s x0)]) 1)),(.r (gR (qk [(.s x0)]) 2)),(.b (gB (qk [(.s x1)]) 0)),(.i (gI (qk [(.s x1)]) 1)),(.r (gR (qk [(.s x1)]) 2))]) 1)),(.r (gR (qf vL [(.b (gB (qk [(.s x0)]) 0)),(.i (gI (qk [(.s x0)]) 1)),(.r (gR (qk [(.s x0)]) 2)),(.b (gB (qk [(.s x1)]) 0)),(.i (gI (qk [(.s x1)]) 1)),(.r (gR (qk [(.s x1)]) 2))]) 2))]) 0)),(.i 0)])) .fail) (.leaf (0,[(.s (gS (qf vL [(.b (gB (qk [(.s x0)]) 0)),(.i (gI (qk [(.s x0)]) 1)),(.r (gR (qk [(.s x0)]) 2)),(.b (gB (qk [(.s x1)]) 0)),(.i (gI (qk [(.s x1)]) 1)),(.r (gR (qk [(.s x1)]) 2))]) 0)),(.i (gI (qf vL [(.b (gB (qk [(.s x0)]) 0)),(.i (gI (qk [(.s x0)]) 1)),(.r (gR (qk [(.s x0)]) 2)),(.b (gB (qk [(.s x1)]) 0)),(.i (gI (qk [(.s x1)]) 1)),(.r (gR (qk [(.s x1)]) 2))]) 1))]))) .fail) .fail) .fail)) .fail):=by kernel_rfl
theorem qn6(x0:List UInt8):zj [.s x0]=(.br (okR (q8 [(.s x0)])) (.br (okR (qJ [(.s (gS (q8 [(.s x0)]) 0))])) (.br (okR (qJ [(.s (gS (q8 [(.s x0)]) 1))])) (.br (ieq (gI (qJ [(.s (gS (q8 [(.s x0)]) 0))]) 0) 3) (.leaf (0,[(.i 3)])) (.br (ieq (gI (qJ [(.s (gS (q8 [(.s x0)]) 1))]) 0) 3) (.leaf (0,[(.i 3)])) (.br (ine (gI (qJ [(.s (gS (q8 [(.s x0)]) 0))]) 0) 0) (.leaf (0,[(.i (q8m (gI (qJ [(.s (gS (q8 [(.s x0)]) 0))]) 0) (gI (qJ [(.s (gS (q8 [(.s x0)]) 1))]) 0)))])) (.br (ine (gI (qJ [(.s (gS (q8 [(.s x0)]) 1))]) 0) 0) (.leaf (0,[(.i (q8m (gI (qJ [(.s (gS (q8 [(.s x0)]) 0))]) 0) (gI (qJ [(.s (gS (q8 [(.s x0)]) 1))]) 0)))])) (.br (not (gB (q8 [(.s x0)]) 2)) (.leaf (0,[(.i 0)])) (.br (okR (ui [(.s (gS (q8 [(.s x0)]) 1)),(.s [49])])) (.br (okR (jd [(.s (gS (q8 [(.s x0)]) 0)),(.s (gS (q8 [(.s x0)]) 1))])) (.br (ine (gI (ui [(.s (gS (q8 [(.s x0)]) 1)),(.s [49])]) 1) 0) (.leaf (0,[(.i 3)])) (.br (ine (gI (jd [(.s (gS (q8 [(.s x0)]) 0)),(.s (gS (q8 [(.s x0)]) 1))]) 1) 0) (.leaf (0,[(.i 3)])) (.br (ile (gI (ui [(.s (gS (q8 [(.s x0)]) 1)),(.s [49])]) 0) 0) (.leaf (0,[(.i 3)])) (.br (not (seq (gS (jd [(.s (gS (q8 [(.s x0)]) 0)),(.s (gS (q8 [(.s x0)]) 1))]) 0) [49])) (.leaf (0,[(.i 3)])) (.leaf (0,[(.i 0)])))))) .fail) .fail)))))) .fail) .fail) .fail):=by kernel_rfl
theorem q3X(y0:Int)(y1:Int)(y2:List UInt8)(y3:List UInt8)(y4:List UInt8)(y5:R):j7 [.i y0,.i y1,.s y2,.s y3,.s y4,.r y5]=(.br (ilt y1 y0) (.br (inb y1 (qL y5)) (.br (okR (zj [(.s (cS y5 y1 0))])) (.br (ine (gI (zj [(.s (cS y5 y1 0))]) 0) 0) (.leaf (2,[(.i (gI (zj [(.s (cS y5 y1 0))]) 0))])) (.leaf (0,[(.i y0),(.i (qt .i64 y1 1)),(.s y2),(.s y3),(.s y4),(.r y5)]))) .fail) .fail) (.leaf (1,[(.s y2),(.s y3),(.s y4)]))):=by kernel_rfl
theorem qnE(x0:List UInt8)(x1:List UInt8)(x2:List UInt8):wt [.s x0,.s x1,.s x2]=(.br (okR (qf j7 [(.i (qL [[(.s x0)],[(.s x1)],[(.s x2)]])),(.i 0),(.s x0),(.s x1),(.s x2),(.r [[(.s x0)],[(.s x1)],[(.s x2)]])])) (.br (jIs (qf j7 [(.i (qL [[(.s x0)],[(.s x1)],[(.s x2)]])),(.i 0),(.s x0),(.s x1),(.s x2),(.r [[(.s x0)],[(.s x1)],[(.s x2)]])]) 0) (.br (inb 0 (qw (gS (qf j7 [(.i (qL [[(.s x0)],[(.s x1)],[(.s x2)]])),(.i 0),(.s x0),(.s x1),(.s x2),(.r [[(.s x0)],[(.s x1)],[(.s x2)]])]) 2))) (.br (ieq (sat (gS (qf j7 [(.i (qL [[(.s x0)],[(.s x1)],[(.s x2)]])),(.i 0),(.s x0),(.s x1),(.s x2),(.r [[(.s x0)],[(.s x1)],[(.s x2)]])]) 2) 0) 45) (.leaf (0,[(.i 2)])) (.leaf (0,[(.i 0)]))) .fail) (.leaf (0,[(.i (gI (qf j7 [(.i (qL [[(.s x0)],[(.s x1)],[(.s x2)]])),(.i 0),(.s x0),(.s x1),(.s x2),(.r [[(.s x0)],[(.s x1)],[(.s x2)]])]) 0))]))) .fail):=by kernel_rfl
theorem qeK(y0:R)(y1:R)(y2:Int)(y3:Int):yS [.r y0,.r y1,.i y2,.i y3]=(.br (ilt y3 y2) (.br (inb y3 (qL y1)) (.br (okR (wt [(.s (cS y1 y3 0)),(.s (cS y1 y3 1)),(.s (cS y1 y3 2))])) (.br (ine (gI (wt [(.s (cS y1 y3 0)),(.s (cS y1 y3 1)),(.s (cS y1 y3 2))]) 0) 0) (.leaf (2,[(.i (gI (wt [(.s (cS y1 y3 0)),(.s (cS y1 y3 1)),(.s (cS y1 y3 2))]) 0))])) (.leaf (0,[(.r y0),(.r y1),(.i y2),(.i (qt .i64 y3 1))]))) .fail) .fail) (.leaf (1,[(.r y0)]))):=by kernel_rfl
theorem qpi(x0:R):zi [.r x0]=(.br (ilt 64 (qL x0)) (.leaf (0,[(.i 5)])) (.br (okR (qf yS [(.r x0),(.r x0),(.i (qL x0)),(.i 0)])) (.br (jIs (qf yS [(.r x0),(.r x0),(.i (qL x0)),(.i 0)]) 0) (.br (ieq (qL (gR (qf yS [(.r x0),(.r x0),(.i (qL x0)),(.i 0)]) 0)) 0) (.leaf (0,[(.i 13)])) (.leaf (0,[(.i 0)]))) (.leaf (0,[(.i (gI (qf yS [(.r x0),(.r x0),(.i (qL x0)),(.i 0)]) 0))]))) .fail)):=by kernel_rfl
theorem qnt(x0:List UInt8)(x1:List UInt8):wo [.s x0,.s x1]=(.br (ilt 9 (qw x0)) (.leaf (0,[(.i 0),(.i 0),(.b false)])) (.br (ilt 9 (qw x1)) (.leaf (0,[(.i 0),(.i 0),(.b false)])) (.br (okR (vu [(.s x0)])) (.br (okR (vu [(.s x1)])) (.leaf (0,[(.i (gI (vu [(.s x0)]) 0)),(.i (gI (vu [(.s x1)]) 0)),(.b true)])) .fail) .fail))):=by kernel_rfl
theorem qlD(x0:Int):jE [.i x0]=(.br (okR (vm [(.i x0)])) (.leaf (0,[(.s (gS (vm [(.i x0)]) 0)),(.i 0)])) .fail):=by kernel_rfl
theorem qec(x0:Bool)(x1:Int)(x2:R):zI [.b x0,.i x1,.r x2]=(.br (okR (qB [(.b x0),(.i x1),(.r x2)])) (.br (okR (qJ [(.s (gS (qB [(.b x0),(.i x1),(.r x2)]) 0))])) (.br (ine (gI (qJ [(.s (gS (qB [(.b x0),(.i x1),(.r x2)]) 0))]) 0) 0) (.leaf (0,[(.s []),(.i (gI (qJ [(.s (gS (qB [(.b x0),(.i x1),(.r x2)]) 0))]) 0)),(.b (gB (qB [(.b x0),(.i x1),(.r x2)]) 1)),(.i (gI (qB [(.b x0),(.i x1),(.r x2)]) 2)),(.r (gR (qB [(.b x0),(.i x1),(.r x2)]) 3))])) (.leaf (0,[(.s (gS (qB [(.b x0),(.i x1),(.r x2)]) 0)),(.i 0),(.b (gB (qB [(.b x0),(.i x1),(.r x2)]) 1)),(.i (gI (qB [(.b x0),(.i x1),(.r x2)]) 2)),(.r (gR (qB [(.b x0),(.i x1),(.r x2)]) 3))]))) .fail) .fail):=by kernel_rfl
theorem qhu(x0:Bool)(x1:Int)(x2:R)(x3:Bool)(x4:Int)(x5:R):zN [.b x0,.i x1,.r x2,.b x3,.i x4,.r x5]=(.br (beq x0 x3) (let r0:TR:=(qN [(.i 1),(.i 0),(.b x0),(.i x1),(.r x2),(.b x3),(.i x4),(.r x5)])
 .br (okR r0) (.leaf (0,[(.b (gB r0 0)),(.i (gI r0 1)),(.r (gR r0 2)),(.b (gB r0 3)),(.i (gI r0 4)),(.r (gR r0 5))])) .fail) (let r0:TR:=(wG [(.b x0),(.i x1),(.r x2),(.b x3),(.i x4),(.r x5)])
 .br (okR r0) (.br (ile 0 (gI r0 0)) (let r1:TR:=(qN [(.i (-1)),(.i 0),(.b (gB r0 1)),(.i (gI r0 2)),(.r (gR r0 3)),(.b (gB r0 4)),(.i (gI r0 5)),(.r (gR r0 6))])
 .br (okR r1) (.leaf (0,[(.b (gB r1 0)),(.i (gI r1 1)),(.r (gR r1 2)),(.b (gB r1 3)),(.i (gI r1 4)),(.r (gR r1 5))])) .fail) (let r1:TR:=(qN [(.i (-1)),(.i 0),(.b (gB r0 4)),(.i (gI r0 5)),(.r (gR r0 6)),(.b (gB r0 1)),(.i (gI r0 2)),(.r (gR r0 3))])
 .br (okR r1) (.leaf (0,[(.b (gB r1 0)),(.i (gI r1 1)),(.r (gR r1 2)),(.b (gB r0 4)),(.i (gI r0 5)),(.r (gR r0 6))])) .fail)) .fail)):=by kernel_rfl
theorem qaz(y0:R)(y1:Int)(y2:Int)(y3:Bool)(y4:Int)(y5:R):wS [.r y0,.i y1,.i y2,.b y3,.i y4,.r y5]=(.br (ilt y2 y1) (.br (inb y2 (qL y0)) (.br (okR (qk [(.s (cS y0 y2 0))])) (.br (okR (zN [(.b y3),(.i y4),(.r y5),(.b (gB (qk [(.s (cS y0 y2 0))]) 0)),(.i (gI (qk [(.s (cS y0 y2 0))]) 1)),(.r (gR (qk [(.s (cS y0 y2 0))]) 2))])) (.leaf (0,[(.r y0),(.i y1),(.i (qt .i64 y2 1)),(.b (gB (zN [(.b y3),(.i y4),(.r y5),(.b (gB (qk [(.s (cS y0 y2 0))]) 0)),(.i (gI (qk [(.s (cS y0 y2 0))]) 1)),(.r (gR (qk [(.s (cS y0 y2 0))]) 2))]) 0)),(.i (gI (zN [(.b y3),(.i y4),(.r y5),(.b (gB (qk [(.s (cS y0 y2 0))]) 0)),(.i (gI (qk [(.s (cS y0 y2 0))]) 1)),(.r (gR (qk [(.s (cS y0 y2 0))]) 2))]) 1)),(.r (gR (zN [(.b y3),(.i y4),(.r y5),(.b (gB (qk [(.s (cS y0 y2 0))]) 0)),(.i (gI (qk [(.s (cS y0 y2 0))]) 1)),(.r (gR (qk [(.s (cS y0 y2 0))]) 2))]) 2))])) .fail) .fail) .fail) (.leaf (1,[(.b y3),(.i y4),(.r y5)]))):=by kernel_rfl
theorem qqb(x0:R):q49 [.r x0]=(.br (okR (qf wS [(.r x0),(.i (qL x0)),(.i 0),(.b false),(.i 0),(.r (zK 232 [(.i 0)]))])) (.br (okR (zI [(.b (gB (qf wS [(.r x0),(.i (qL x0)),(.i 0),(.b false),(.i 0),(.r (zK 232 [(.i 0)]))]) 0)),(.i (gI (qf wS [(.r x0),(.i (qL x0)),(.i 0),(.b false),(.i 0),(.r (zK 232 [(.i 0)]))]) 1)),(.r (gR (qf wS [(.r x0),(.i (qL x0)),(.i 0),(.b false),(.i 0),(.r (zK 232 [(.i 0)]))]) 2))])) (.leaf (0,[(.s (gS (zI [(.b (gB (qf wS [(.r x0),(.i (qL x0)),(.i 0),(.b false),(.i 0),(.r (zK 232 [(.i 0)]))]) 0)),(.i (gI (qf wS [(.r x0),(.i (qL x0)),(.i 0),(.b false),(.i 0),(.r (zK 232 [(.i 0)]))]) 1)),(.r (gR (qf wS [(.r x0),(.i (qL x0)),(.i 0),(.b false),(.i 0),(.r (zK 232 [(.i 0)]))]) 2))]) 0)),(.i (gI (zI [(.b (gB (qf wS [(.r x0),(.i (qL x0)),(.i 0),(.b false),(.i 0),(.r (zK 232 [(.i 0)]))]) 0)),(.i (gI (qf wS [(.r x0),(.i (qL x0)),(.i 0),(.b false),(.i 0),(.r (zK 232 [(.i 0)]))]) 1)),(.r (gR (qf wS [(.r x0),(.i (qL x0)),(.i 0),(.b false),(.i 0),(.r (zK 232 [(.i 0)]))]) 2))]) 1))])) .fail) .fail):=by kernel_rfl
theorem qq7(x0:List UInt8)(x1:List UInt8):jc [.s x0,.s x1]=(.br (okR (zo [(.r [[(.s x0)],[(.s x1)]])])) (.br (ine (gI (zo [(.r [[(.s x0)],[(.s x1)]])]) 0) 0) (.leaf (0,[(.s []),(.i (gI (zo [(.r [[(.s x0)],[(.s x1)]])]) 0))])) (.br (okR (wo [(.s x0),(.s x1)])) (.br (gB (wo [(.s x0),(.s x1)]) 2) (.br (okR (jE [(.i (qt .i64 (gI (wo [(.s x0),(.s x1)]) 0) (gI (wo [(.s x0),(.s x1)]) 1)))])) (.leaf (0,[(.s (gS (jE [(.i (qt .i64 (gI (wo [(.s x0),(.s x1)]) 0) (gI (wo [(.s x0),(.s x1)]) 1)))]) 0)),(.i (gI (jE [(.i (qt .i64 (gI (wo [(.s x0),(.s x1)]) 0) (gI (wo [(.s x0),(.s x1)]) 1)))]) 1))])) .fail) (.br (okR (q49 [(.r [[(.s x0)],[(.s x1)]])])) (.leaf (0,[(.s (gS (q49 [(.r [[(.s x0)],[(.s x1)]])]) 0)),(.i (gI (q49 [(.r [[(.s x0)],[(.s x1)]])]) 1))])) .fail)) .fail)) .fail):=by kernel_rfl
theorem qjs(x0:List UInt8):jl [.s x0]=(.br (okR (zS [(.s x0)])) (.br (ieq (gI (zS [(.s x0)]) 0) 0) (.leaf (0,[(.s x0)])) (.br (ieq (gI (zS [(.s x0)]) 0) 1) (.br (ile ((qw [45])+(qw x0)) 140737488355328) (.leaf (0,[(.s (q6K [45] x0))])) .fail) (.br (q6E (qw x0) (qw x0)) (.br (q6E 1 (qw x0)) (.leaf (0,[(.s (q5W x0 1 (qw x0)))])) .fail) .fail))) .fail):=by kernel_rfl
theorem qre(x0:List UInt8)(x1:List UInt8):kJ [.s x0,.s x1]=(.br (okR (zo [(.r [[(.s x0)],[(.s x1)]])])) (.br (ine (gI (zo [(.r [[(.s x0)],[(.s x1)]])]) 0) 0) (.leaf (0,[(.s []),(.i (gI (zo [(.r [[(.s x0)],[(.s x1)]])]) 0))])) (.br (okR (jl [(.s x1)])) (.br (okR (jc [(.s x0),(.s (gS (jl [(.s x1)]) 0))])) (.leaf (0,[(.s (gS (jc [(.s x0),(.s (gS (jl [(.s x1)]) 0))]) 0)),(.i (gI (jc [(.s x0),(.s (gS (jl [(.s x1)]) 0))]) 1))])) .fail) .fail)) .fail):=by kernel_rfl
theorem q9M(x0:List UInt8)(x1:List UInt8)(x2:Int):zX [.s x0,.s x1,.i x2]=(.br (ine x2 0) (.leaf (0,[(.s [48]),(.i x2)])) (.br (okR (kJ [(.s x0),(.s x1)])) (.br (ine (gI (kJ [(.s x0),(.s x1)]) 1) 0) (.leaf (0,[(.s [48]),(.i (gI (kJ [(.s x0),(.s x1)]) 1))])) (.leaf (0,[(.s (gS (kJ [(.s x0),(.s x1)]) 0)),(.i (gI (kJ [(.s x0),(.s x1)]) 1))]))) .fail)):=by kernel_rfl
theorem qjI(x0:List UInt8)(x1:List UInt8)(x2:Int):zm [.s x0,.s x1,.i x2]=(.br (okR (zX [(.s x0),(.s x1),(.i x2)])) (.leaf (0,[(.s (gS (zX [(.s x0),(.s x1),(.i x2)]) 0)),(.i (gI (zX [(.s x0),(.s x1),(.i x2)]) 1))])) .fail):=by kernel_rfl
theorem qdJ(y0:Int)(y1:Int)(y2:Bool)(y3:Int)(y4:R)(y5:Bool)(y6:Int)(y7:R)(y8:Bool)(y9:Int)(y10:R):zg [.i y0,.i y1,.b y2,.i y3,.r y4,.b y5,.i y6,.r y7,.b y8,.i y9,.r y10]=(.br (ilt y1 y0) (.br (inb y1 232) (.br (inb y1 232) (.br (okR (qN [(.i (cI y7 y1 0)),(.i y1),(.b y8),(.i y9),(.r y10),(.b y2),(.i y3),(.r y4)])) (.leaf (0,[(.i y0),(.i (qt .i64 y1 1)),(.b (gB (qN [(.i (cI y7 y1 0)),(.i y1),(.b y8),(.i y9),(.r y10),(.b y2),(.i y3),(.r y4)]) 3)),(.i (gI (qN [(.i (cI y7 y1 0)),(.i y1),(.b y8),(.i y9),(.r y10),(.b y2),(.i y3),(.r y4)]) 4)),(.r (gR (qN [(.i (cI y7 y1 0)),(.i y1),(.b y8),(.i y9),(.r y10),(.b y2),(.i y3),(.r y4)]) 5)),(.b y5),(.i y6),(.r y7),(.b (gB (qN [(.i (cI y7 y1 0)),(.i y1),(.b y8),(.i y9),(.r y10),(.b y2),(.i y3),(.r y4)]) 0)),(.i (gI (qN [(.i (cI y7 y1 0)),(.i y1),(.b y8),(.i y9),(.r y10),(.b y2),(.i y3),(.r y4)]) 1)),(.r (gR (qN [(.i (cI y7 y1 0)),(.i y1),(.b y8),(.i y9),(.r y10),(.b y2),(.i y3),(.r y4)]) 2))])) .fail) .fail) .fail) (.leaf (1,[(.b y2),(.i y3),(.r y4),(.b y5),(.i y6),(.r y7),(.b y8),(.i y9),(.r y10)]))):=by kernel_rfl
theorem qgW(x0:Bool)(x1:Int)(x2:R)(x3:Bool)(x4:Int)(x5:R):uM [.b x0,.i x1,.r x2,.b x3,.i x4,.r x5]=(.br (okR (qf zg [(.i x4),(.i 0),(.b x0),(.i x1),(.r x2),(.b x3),(.i x4),(.r x5),(.b (not (beq x0 x3))),(.i 0),(.r (zK 232 [(.i 0)]))])) (.leaf (0,[(.b (gB (qf zg [(.i x4),(.i 0),(.b x0),(.i x1),(.r x2),(.b x3),(.i x4),(.r x5),(.b (not (beq x0 x3))),(.i 0),(.r (zK 232 [(.i 0)]))]) 0)),(.i (gI (qf zg [(.i x4),(.i 0),(.b x0),(.i x1),(.r x2),(.b x3),(.i x4),(.r x5),(.b (not (beq x0 x3))),(.i 0),(.r (zK 232 [(.i 0)]))]) 1)),(.r (gR (qf zg [(.i x4),(.i 0),(.b x0),(.i x1),(.r x2),(.b x3),(.i x4),(.r x5),(.b (not (beq x0 x3))),(.i 0),(.r (zK 232 [(.i 0)]))]) 2)),(.b (gB (qf zg [(.i x4),(.i 0),(.b x0),(.i x1),(.r x2),(.b x3),(.i x4),(.r x5),(.b (not (beq x0 x3))),(.i 0),(.r (zK 232 [(.i 0)]))]) 3)),(.i (gI (qf zg [(.i x4),(.i 0),(.b x0),(.i x1),(.r x2),(.b x3),(.i x4),(.r x5),(.b (not (beq x0 x3))),(.i 0),(.r (zK 232 [(.i 0)]))]) 4)),(.r (gR (qf zg [(.i x4),(.i 0),(.b x0),(.i x1),(.r x2),(.b x3),(.i x4),(.r x5),(.b (not (beq x0 x3))),(.i 0),(.r (zK 232 [(.i 0)]))]) 5)),(.b (gB (qf zg [(.i x4),(.i 0),(.b x0),(.i x1),(.r x2),(.b x3),(.i x4),(.r x5),(.b (not (beq x0 x3))),(.i 0),(.r (zK 232 [(.i 0)]))]) 6)),(.i (gI (qf zg [(.i x4),(.i 0),(.b x0),(.i x1),(.r x2),(.b x3),(.i x4),(.r x5),(.b (not (beq x0 x3))),(.i 0),(.r (zK 232 [(.i 0)]))]) 7)),(.r (gR (qf zg [(.i x4),(.i 0),(.b x0),(.i x1),(.r x2),(.b x3),(.i x4),(.r x5),(.b (not (beq x0 x3))),(.i 0),(.r (zK 232 [(.i 0)]))]) 8))])) .fail):=by kernel_rfl
theorem qq9(x0:List UInt8)(x1:List UInt8):ue [.s x0,.s x1]=(let r0:TR:=(zo [(.r [[(.s x0)],[(.s x1)]])])
 .br (okR r0) (.br (ine (gI r0 0) 0) (.leaf (0,[(.s []),(.i (gI r0 0))])) (let r1:TR:=(wo [(.s x0),(.s x1)])
 .br (okR r1) (.br (gB r1 2) (let r2:TR:=(jE [(.i (q0Q .i64 (gI r1 0) (gI r1 1)))])
 .br (okR r2) (.leaf (0,[(.s (gS r2 0)),(.i (gI r2 1))])) .fail) (let r2:TR:=(qk [(.s x0)])
 .br (okR r2) (let r3:TR:=(qk [(.s x1)])
 .br (okR r3) (let r4:TR:=(uM [(.b (gB r2 0)),(.i (gI r2 1)),(.r (gR r2 2)),(.b (gB r3 0)),(.i (gI r3 1)),(.r (gR r3 2))])
 .br (okR r4) (let r5:TR:=(zI [(.b (gB r4 6)),(.i (gI r4 7)),(.r (gR r4 8))])
 .br (okR r5) (.leaf (0,[(.s (gS r5 0)),(.i (gI r5 1))])) .fail) .fail) .fail) .fail)) .fail)) .fail):=by kernel_rfl
theorem q9O(x0:List UInt8)(x1:List UInt8)(x2:Int):zw [.s x0,.s x1,.i x2]=(.br (ine x2 0) (.leaf (0,[(.s [48]),(.i x2)])) (.br (okR (ue [(.s x0),(.s x1)])) (.br (ine (gI (ue [(.s x0),(.s x1)]) 1) 0) (.leaf (0,[(.s [48]),(.i (gI (ue [(.s x0),(.s x1)]) 1))])) (.leaf (0,[(.s (gS (ue [(.s x0),(.s x1)]) 0)),(.i (gI (ue [(.s x0),(.s x1)]) 1))]))) .fail)):=by kernel_rfl
theorem q9d(y0:List UInt8)(y1:R)(y2:Int)(y3:Int)(y4:Int):vd [.s y0,.r y1,.i y2,.i y3,.i y4]=(.br (ilt y3 y2) (.br (inb y3 (qL y1)) (.br (okR (zw [(.s y0),(.s (cS y1 y3 0)),(.i y4)])) (.leaf (0,[(.s (gS (zw [(.s y0),(.s (cS y1 y3 0)),(.i y4)]) 0)),(.r y1),(.i y2),(.i (qt .i64 y3 1)),(.i (gI (zw [(.s y0),(.s (cS y1 y3 0)),(.i y4)]) 1))])) .fail) .fail) (.leaf (1,[(.s y0),(.i y4)]))):=by kernel_rfl
theorem qjp(x0:R)(x1:Int):q9 [.r x0,.i x1]=(.br (okR (qf vd [(.s [49]),(.r x0),(.i (qL x0)),(.i 0),(.i x1)])) (.leaf (0,[(.s (gS (qf vd [(.s [49]),(.r x0),(.i (qL x0)),(.i 0),(.i x1)]) 0)),(.i (gI (qf vd [(.s [49]),(.r x0),(.i (qL x0)),(.i 0),(.i x1)]) 1))])) .fail):=by kernel_rfl
theorem qnh(x0:List UInt8)(x1:List UInt8)(x2:List UInt8)(x3:List UInt8)(x4:Int):zE [.s x0,.s x1,.s x2,.s x3,.i x4]=(.br (okR (q9 [(.r [[(.s x0)],[(.s x3)]]),(.i x4)])) (.br (okR (q9 [(.r [[(.s x2)],[(.s x1)]]),(.i (gI (q9 [(.r [[(.s x0)],[(.s x3)]]),(.i x4)]) 1))])) (.br (okR (zm [(.s (gS (q9 [(.r [[(.s x0)],[(.s x3)]]),(.i x4)]) 0)),(.s (gS (q9 [(.r [[(.s x2)],[(.s x1)]]),(.i (gI (q9 [(.r [[(.s x0)],[(.s x3)]]),(.i x4)]) 1))]) 0)),(.i (gI (q9 [(.r [[(.s x2)],[(.s x1)]]),(.i (gI (q9 [(.r [[(.s x0)],[(.s x3)]]),(.i x4)]) 1))]) 1))])) (.br (okR (q9 [(.r [[(.s x1)],[(.s x3)]]),(.i (gI (zm [(.s (gS (q9 [(.r [[(.s x0)],[(.s x3)]]),(.i x4)]) 0)),(.s (gS (q9 [(.r [[(.s x2)],[(.s x1)]]),(.i (gI (q9 [(.r [[(.s x0)],[(.s x3)]]),(.i x4)]) 1))]) 0)),(.i (gI (q9 [(.r [[(.s x2)],[(.s x1)]]),(.i (gI (q9 [(.r [[(.s x0)],[(.s x3)]]),(.i x4)]) 1))]) 1))]) 1))])) (.leaf (0,[(.s (gS (zm [(.s (gS (q9 [(.r [[(.s x0)],[(.s x3)]]),(.i x4)]) 0)),(.s (gS (q9 [(.r [[(.s x2)],[(.s x1)]]),(.i (gI (q9 [(.r [[(.s x0)],[(.s x3)]]),(.i x4)]) 1))]) 0)),(.i (gI (q9 [(.r [[(.s x2)],[(.s x1)]]),(.i (gI (q9 [(.r [[(.s x0)],[(.s x3)]]),(.i x4)]) 1))]) 1))]) 0)),(.s (gS (q9 [(.r [[(.s x1)],[(.s x3)]]),(.i (gI (zm [(.s (gS (q9 [(.r [[(.s x0)],[(.s x3)]]),(.i x4)]) 0)),(.s (gS (q9 [(.r [[(.s x2)],[(.s x1)]]),(.i (gI (q9 [(.r [[(.s x0)],[(.s x3)]]),(.i x4)]) 1))]) 0)),(.i (gI (q9 [(.r [[(.s x2)],[(.s x1)]]),(.i (gI (q9 [(.r [[(.s x0)],[(.s x3)]]),(.i x4)]) 1))]) 1))]) 1))]) 0)),(.i (gI (q9 [(.r [[(.s x1)],[(.s x3)]]),(.i (gI (zm [(.s (gS (q9 [(.r [[(.s x0)],[(.s x3)]]),(.i x4)]) 0)),(.s (gS (q9 [(.r [[(.s x2)],[(.s x1)]]),(.i (gI (q9 [(.r [[(.s x0)],[(.s x3)]]),(.i x4)]) 1))]) 0)),(.i (gI (q9 [(.r [[(.s x2)],[(.s x1)]]),(.i (gI (q9 [(.r [[(.s x0)],[(.s x3)]]),(.i x4)]) 1))]) 1))]) 1))]) 1))])) .fail) .fail) .fail) .fail):=by kernel_rfl
theorem qbF(y0:R)(y1:Int)(y2:Int):yu [.r y0,.i y1,.i y2]=(.br (ilt y2 y1) (.br (inb y2 (qL y0)) (.br (okR (zj [(.s (cS y0 y2 0))])) (.br (ine (gI (zj [(.s (cS y0 y2 0))]) 0) 0) (.leaf (2,[(.i (gI (zj [(.s (cS y0 y2 0))]) 0))])) (.leaf (0,[(.r y0),(.i y1),(.i (qt .i64 y2 1))]))) .fail) .fail) (.leaf (1,[]))):=by kernel_rfl
theorem qmE(x0:R):qR [.r x0]=(.br (okR (qf yu [(.r x0),(.i (qL x0)),(.i 0)])) (.br (jIs (qf yu [(.r x0),(.i (qL x0)),(.i 0)]) 0) (.leaf (0,[(.i 0)])) (.leaf (0,[(.i (gI (qf yu [(.r x0),(.i (qL x0)),(.i 0)]) 0))]))) .fail):=by kernel_rfl
theorem qfk(x0:List UInt8)(x1:List UInt8):uc [.s x0,.s x1]=(.br (okR (qV [(.s x0),(.s x1)])) (.leaf (0,[(.b (gB (qV [(.s x0),(.s x1)]) 0))])) .fail):=by kernel_rfl
theorem qmy(x0:List UInt8)(x1:List UInt8):q1C [.s x0,.s x1]=(.br (seq x1 [49]) (.leaf (0,[(.s x0)])) (.br (ile ((qw x0)+(qw [47])) 140737488355328) (.br (ile ((qw (q6K x0 [47]))+(qw x1)) 140737488355328) (.leaf (0,[(.s (q6K (q6K x0 [47]) x1))])) .fail) .fail)):=by kernel_rfl
theorem qmp(x0:List UInt8)(x1:List UInt8):vD [.s x0,.s x1]=(let r0:TR:=(zo [(.r [[(.s x0)],[(.s x1)]])])
 .br (okR r0) (.br (ine (gI r0 0) 0) (.leaf (0,[(.s []),(.s []),(.i (gI r0 0))])) (.br (seq x1 [48]) (.leaf (0,[(.s []),(.s []),(.i 10)])) (let r1:TR:=(wo [(.s x0),(.s x1)])
 .br (okR r1) (.br (gB r1 2) (.br (ine (gI r1 1) 0) (.br (ine (gI r1 1) 0) (.br (ine (q5s (gI r1 0) (gI r1 1)) 0) (.br (not (beq (ilt (q5s (gI r1 0) (gI r1 1)) 0) (ilt (gI r1 1) 0))) (let r2:TR:=(vm [(.i (z8 .i64 (yH .i64 (gI r1 0) (gI r1 1)) 1))])
 .br (okR r2) (let r3:TR:=(vm [(.i (qt .i64 (q5s (gI r1 0) (gI r1 1)) (gI r1 1)))])
 .br (okR r3) (.leaf (0,[(.s (gS r2 0)),(.s (gS r3 0)),(.i 0)])) .fail) .fail) (let r2:TR:=(vm [(.i (yH .i64 (gI r1 0) (gI r1 1)))])
 .br (okR r2) (let r3:TR:=(vm [(.i (q5s (gI r1 0) (gI r1 1)))])
 .br (okR r3) (.leaf (0,[(.s (gS r2 0)),(.s (gS r3 0)),(.i 0)])) .fail) .fail)) (let r2:TR:=(vm [(.i (yH .i64 (gI r1 0) (gI r1 1)))])
 .br (okR r2) (let r3:TR:=(vm [(.i (q5s (gI r1 0) (gI r1 1)))])
 .br (okR r3) (.leaf (0,[(.s (gS r2 0)),(.s (gS r3 0)),(.i 0)])) .fail) .fail)) .fail) .fail) (let r2:TR:=(qk [(.s x0)])
 .br (okR r2) (let r3:TR:=(qk [(.s x1)])
 .br (okR r3) (let r4:TR:=(qX [(.b (gB r2 0)),(.i (gI r2 1)),(.r (gR r2 2)),(.b (gB r3 0)),(.i (gI r3 1)),(.r (gR r3 2))])
 .br (okR r4) (.br (ilt 0 (gI r4 10)) (.br (not (beq (gB r4 0) (gB r4 3))) (let r5:TR:=(zN [(.b true),(.i (gI r4 7)),(.r (gR r4 8)),(.b true),(.i 1),(.r (qbN (zK 232 [(.i 0)]) 0 0 [(.i 1)]))])
 .br (okR r5) (let r6:TR:=(zN [(.b (gB r4 0)),(.i (gI r4 10)),(.r (gR r4 11)),(.b (gB r4 3)),(.i (gI r4 4)),(.r (gR r4 5))])
 .br (okR r6) (let r7:TR:=(qB [(.b (gB r5 0)),(.i (gI r5 1)),(.r (gR r5 2))])
 .br (okR r7) (let r8:TR:=(qB [(.b (gB r6 0)),(.i (gI r6 1)),(.r (gR r6 2))])
 .br (okR r8) (.leaf (0,[(.s (gS r7 0)),(.s (gS r8 0)),(.i 0)])) .fail) .fail) .fail) .fail) (let r5:TR:=(qB [(.b (not (beq (gB r4 0) (gB r4 3)))),(.i (gI r4 7)),(.r (gR r4 8))])
 .br (okR r5) (let r6:TR:=(qB [(.b (gB r4 0)),(.i (gI r4 10)),(.r (gR r4 11))])
 .br (okR r6) (.leaf (0,[(.s (gS r5 0)),(.s (gS r6 0)),(.i 0)])) .fail) .fail)) (let r5:TR:=(qB [(.b (not (beq (gB r4 0) (gB r4 3)))),(.i (gI r4 7)),(.r (gR r4 8))])
 .br (okR r5) (let r6:TR:=(qB [(.b (gB r4 0)),(.i (gI r4 10)),(.r (gR r4 11))])
 .br (okR r6) (.leaf (0,[(.s (gS r5 0)),(.s (gS r6 0)),(.i 0)])) .fail) .fail)) .fail) .fail) .fail)) .fail))) .fail):=by kernel_rfl
theorem qra(x0:List UInt8)(x1:List UInt8):kt [.s x0,.s x1]=(.br (okR (vD [(.s x0),(.s x1)])) (.br (ine (gI (vD [(.s x0),(.s x1)]) 2) 0) (.leaf (0,[(.s []),(.i (gI (vD [(.s x0),(.s x1)]) 2))])) (.br (okR (qJ [(.s (gS (vD [(.s x0),(.s x1)]) 0))])) (.br (ine (gI (qJ [(.s (gS (vD [(.s x0),(.s x1)]) 0))]) 0) 0) (.leaf (0,[(.s []),(.i (gI (qJ [(.s (gS (vD [(.s x0),(.s x1)]) 0))]) 0))])) (.leaf (0,[(.s (gS (vD [(.s x0),(.s x1)]) 0)),(.i 0)]))) .fail)) .fail):=by kernel_rfl
theorem q9J(x0:List UInt8)(x1:List UInt8)(x2:Int):vr [.s x0,.s x1,.i x2]=(.br (ine x2 0) (.leaf (0,[(.s [48]),(.i x2)])) (.br (okR (jd [(.s x0),(.s x1)])) (.br (ine (gI (jd [(.s x0),(.s x1)]) 1) 0) (.leaf (0,[(.s [48]),(.i (gI (jd [(.s x0),(.s x1)]) 1))])) (.leaf (0,[(.s (gS (jd [(.s x0),(.s x1)]) 0)),(.i (gI (jd [(.s x0),(.s x1)]) 1))]))) .fail)):=by kernel_rfl
theorem q9G(x0:List UInt8)(x1:List UInt8)(x2:Int):zy [.s x0,.s x1,.i x2]=(.br (ine x2 0) (.leaf (0,[(.s [48]),(.i x2)])) (.br (okR (kt [(.s x0),(.s x1)])) (.br (ine (gI (kt [(.s x0),(.s x1)]) 1) 0) (.leaf (0,[(.s [48]),(.i (gI (kt [(.s x0),(.s x1)]) 1))])) (.leaf (0,[(.s (gS (kt [(.s x0),(.s x1)]) 0)),(.i (gI (kt [(.s x0),(.s x1)]) 1))]))) .fail)):=by kernel_rfl
theorem qfc(x0:List UInt8)(x1:List UInt8)(x2:Int):qM [.s x0,.s x1,.i x2]=(let r0:TR:=(vr [(.s x0),(.s x1),(.i x2)])
 .br (okR r0) (let r1:TR:=(uc [(.s x1),(.s [45])])
 .br (okR r1) (.br (gB r1 0) (let r2:TR:=(zm [(.s [48]),(.s (gS r0 0)),(.i (gI r0 1))])
 .br (okR r2) (.br (ine (gI r2 1) 0) (.leaf (0,[(.s []),(.i (gI r2 1))])) (let r3:TR:=(zy [(.s x0),(.s (gS r2 0)),(.i (gI r2 1))])
 .br (okR r3) (let r4:TR:=(zy [(.s x1),(.s (gS r2 0)),(.i (gI r3 1))])
 .br (okR r4) (let r5:TR:=(q1C [(.s (gS r3 0)),(.s (gS r4 0))])
 .br (okR r5) (.leaf (0,[(.s (gS r5 0)),(.i (gI r4 1))])) .fail) .fail) .fail)) .fail) (.br (ine (gI r0 1) 0) (.leaf (0,[(.s []),(.i (gI r0 1))])) (let r2:TR:=(zy [(.s x0),(.s (gS r0 0)),(.i (gI r0 1))])
 .br (okR r2) (let r3:TR:=(zy [(.s x1),(.s (gS r0 0)),(.i (gI r2 1))])
 .br (okR r3) (let r4:TR:=(q1C [(.s (gS r2 0)),(.s (gS r3 0))])
 .br (okR r4) (.leaf (0,[(.s (gS r4 0)),(.i (gI r3 1))])) .fail) .fail) .fail))) .fail) .fail):=by kernel_rfl
theorem qaW(x0:List UInt8)(x1:List UInt8):wB [.s x0,.s x1]=(.br (okR (qR [(.r [[(.s x0)],[(.s x1)]])])) (.br (ine (gI (qR [(.r [[(.s x0)],[(.s x1)]])]) 0) 0) (.leaf (0,[(.s []),(.i (gI (qR [(.r [[(.s x0)],[(.s x1)]])]) 0))])) (.br (okR (q8 [(.s x0)])) (.br (okR (q8 [(.s x1)])) (.br (okR (zE [(.s (gS (q8 [(.s x0)]) 0)),(.s (gS (q8 [(.s x0)]) 1)),(.s (gS (q8 [(.s x1)]) 0)),(.s (gS (q8 [(.s x1)]) 1)),(.i 0)])) (.br (ine (gI (zE [(.s (gS (q8 [(.s x0)]) 0)),(.s (gS (q8 [(.s x0)]) 1)),(.s (gS (q8 [(.s x1)]) 0)),(.s (gS (q8 [(.s x1)]) 1)),(.i 0)]) 2) 0) (.leaf (0,[(.s []),(.i (gI (zE [(.s (gS (q8 [(.s x0)]) 0)),(.s (gS (q8 [(.s x0)]) 1)),(.s (gS (q8 [(.s x1)]) 0)),(.s (gS (q8 [(.s x1)]) 1)),(.i 0)]) 2))])) (.br (seq (gS (zE [(.s (gS (q8 [(.s x0)]) 0)),(.s (gS (q8 [(.s x0)]) 1)),(.s (gS (q8 [(.s x1)]) 0)),(.s (gS (q8 [(.s x1)]) 1)),(.i 0)]) 1) [48]) (.leaf (0,[(.s []),(.i 10)])) (.br (okR (qM [(.s (gS (zE [(.s (gS (q8 [(.s x0)]) 0)),(.s (gS (q8 [(.s x0)]) 1)),(.s (gS (q8 [(.s x1)]) 0)),(.s (gS (q8 [(.s x1)]) 1)),(.i 0)]) 0)),(.s (gS (zE [(.s (gS (q8 [(.s x0)]) 0)),(.s (gS (q8 [(.s x0)]) 1)),(.s (gS (q8 [(.s x1)]) 0)),(.s (gS (q8 [(.s x1)]) 1)),(.i 0)]) 1)),(.i (gI (zE [(.s (gS (q8 [(.s x0)]) 0)),(.s (gS (q8 [(.s x0)]) 1)),(.s (gS (q8 [(.s x1)]) 0)),(.s (gS (q8 [(.s x1)]) 1)),(.i 0)]) 2))])) (.leaf (0,[(.s (gS (qM [(.s (gS (zE [(.s (gS (q8 [(.s x0)]) 0)),(.s (gS (q8 [(.s x0)]) 1)),(.s (gS (q8 [(.s x1)]) 0)),(.s (gS (q8 [(.s x1)]) 1)),(.i 0)]) 0)),(.s (gS (zE [(.s (gS (q8 [(.s x0)]) 0)),(.s (gS (q8 [(.s x0)]) 1)),(.s (gS (q8 [(.s x1)]) 0)),(.s (gS (q8 [(.s x1)]) 1)),(.i 0)]) 1)),(.i (gI (zE [(.s (gS (q8 [(.s x0)]) 0)),(.s (gS (q8 [(.s x0)]) 1)),(.s (gS (q8 [(.s x1)]) 0)),(.s (gS (q8 [(.s x1)]) 1)),(.i 0)]) 2))]) 0)),(.i (gI (qM [(.s (gS (zE [(.s (gS (q8 [(.s x0)]) 0)),(.s (gS (q8 [(.s x0)]) 1)),(.s (gS (q8 [(.s x1)]) 0)),(.s (gS (q8 [(.s x1)]) 1)),(.i 0)]) 0)),(.s (gS (zE [(.s (gS (q8 [(.s x0)]) 0)),(.s (gS (q8 [(.s x0)]) 1)),(.s (gS (q8 [(.s x1)]) 0)),(.s (gS (q8 [(.s x1)]) 1)),(.i 0)]) 1)),(.i (gI (zE [(.s (gS (q8 [(.s x0)]) 0)),(.s (gS (q8 [(.s x0)]) 1)),(.s (gS (q8 [(.s x1)]) 0)),(.s (gS (q8 [(.s x1)]) 1)),(.i 0)]) 2))]) 1))])) .fail))) .fail) .fail) .fail)) .fail):=by kernel_rfl
theorem qqM(x0:List UInt8)(x1:List UInt8):kV [.s x0,.s x1]=(.br (okR (wB [(.s x0),(.s x1)])) (.leaf (0,[(.s (gS (wB [(.s x0),(.s x1)]) 0)),(.i (gI (wB [(.s x0),(.s x1)]) 1))])) .fail):=by kernel_rfl
theorem q9L(x0:List UInt8)(x1:List UInt8)(x2:Int):w9 [.s x0,.s x1,.i x2]=(.br (ine x2 0) (.leaf (0,[(.s [48]),(.i x2)])) (.br (okR (kV [(.s x0),(.s x1)])) (.br (ine (gI (kV [(.s x0),(.s x1)]) 1) 0) (.leaf (0,[(.s [48]),(.i (gI (kV [(.s x0),(.s x1)]) 1))])) (.leaf (0,[(.s (gS (kV [(.s x0),(.s x1)]) 0)),(.i (gI (kV [(.s x0),(.s x1)]) 1))]))) .fail)):=by kernel_rfl
theorem qja(x0:List UInt8)(x1:List UInt8)(x2:Int):qz [.s x0,.s x1,.i x2]=(.br (okR (w9 [(.s x0),(.s x1),(.i x2)])) (.leaf (0,[(.s (gS (w9 [(.s x0),(.s x1),(.i x2)]) 0)),(.i (gI (w9 [(.s x0),(.s x1),(.i x2)]) 1))])) .fail):=by kernel_rfl
theorem qi8(x0:List UInt8)(x1:List UInt8)(x2:List UInt8)(x3:List UInt8)(x4:Int):qH [.s x0,.s x1,.s x2,.s x3,.i x4]=(.br (okR (qz [(.s x0),(.s x2),(.i x4)])) (.br (okR (qz [(.s x1),(.s x3),(.i (gI (qz [(.s x0),(.s x2),(.i x4)]) 1))])) (.leaf (0,[(.s (gS (qz [(.s x0),(.s x2),(.i x4)]) 0)),(.s (gS (qz [(.s x1),(.s x3),(.i (gI (qz [(.s x0),(.s x2),(.i x4)]) 1))]) 0)),(.i (gI (qz [(.s x1),(.s x3),(.i (gI (qz [(.s x0),(.s x2),(.i x4)]) 1))]) 1))])) .fail) .fail):=by kernel_rfl
theorem q9K(x0:List UInt8)(x1:List UInt8)(x2:Int):zY [.s x0,.s x1,.i x2]=(.br (ine x2 0) (.leaf (0,[(.s [48]),(.i x2)])) (.br (okR (jc [(.s x0),(.s x1)])) (.br (ine (gI (jc [(.s x0),(.s x1)]) 1) 0) (.leaf (0,[(.s [48]),(.i (gI (jc [(.s x0),(.s x1)]) 1))])) (.leaf (0,[(.s (gS (jc [(.s x0),(.s x1)]) 0)),(.i (gI (jc [(.s x0),(.s x1)]) 1))]))) .fail)):=by kernel_rfl
theorem qju(x0:List UInt8)(x1:List UInt8)(x2:Int):wH [.s x0,.s x1,.i x2]=(.br (okR (zY [(.s x0),(.s x1),(.i x2)])) (.leaf (0,[(.s (gS (zY [(.s x0),(.s x1),(.i x2)]) 0)),(.i (gI (zY [(.s x0),(.s x1),(.i x2)]) 1))])) .fail):=by kernel_rfl
theorem qne(x0:List UInt8)(x1:List UInt8)(x2:List UInt8)(x3:List UInt8)(x4:Int):zB [.s x0,.s x1,.s x2,.s x3,.i x4]=(.br (okR (q9 [(.r [[(.s x0)],[(.s x3)]]),(.i x4)])) (.br (okR (q9 [(.r [[(.s x2)],[(.s x1)]]),(.i (gI (q9 [(.r [[(.s x0)],[(.s x3)]]),(.i x4)]) 1))])) (.br (okR (wH [(.s (gS (q9 [(.r [[(.s x0)],[(.s x3)]]),(.i x4)]) 0)),(.s (gS (q9 [(.r [[(.s x2)],[(.s x1)]]),(.i (gI (q9 [(.r [[(.s x0)],[(.s x3)]]),(.i x4)]) 1))]) 0)),(.i (gI (q9 [(.r [[(.s x2)],[(.s x1)]]),(.i (gI (q9 [(.r [[(.s x0)],[(.s x3)]]),(.i x4)]) 1))]) 1))])) (.br (okR (q9 [(.r [[(.s x1)],[(.s x3)]]),(.i (gI (wH [(.s (gS (q9 [(.r [[(.s x0)],[(.s x3)]]),(.i x4)]) 0)),(.s (gS (q9 [(.r [[(.s x2)],[(.s x1)]]),(.i (gI (q9 [(.r [[(.s x0)],[(.s x3)]]),(.i x4)]) 1))]) 0)),(.i (gI (q9 [(.r [[(.s x2)],[(.s x1)]]),(.i (gI (q9 [(.r [[(.s x0)],[(.s x3)]]),(.i x4)]) 1))]) 1))]) 1))])) (.leaf (0,[(.s (gS (wH [(.s (gS (q9 [(.r [[(.s x0)],[(.s x3)]]),(.i x4)]) 0)),(.s (gS (q9 [(.r [[(.s x2)],[(.s x1)]]),(.i (gI (q9 [(.r [[(.s x0)],[(.s x3)]]),(.i x4)]) 1))]) 0)),(.i (gI (q9 [(.r [[(.s x2)],[(.s x1)]]),(.i (gI (q9 [(.r [[(.s x0)],[(.s x3)]]),(.i x4)]) 1))]) 1))]) 0)),(.s (gS (q9 [(.r [[(.s x1)],[(.s x3)]]),(.i (gI (wH [(.s (gS (q9 [(.r [[(.s x0)],[(.s x3)]]),(.i x4)]) 0)),(.s (gS (q9 [(.r [[(.s x2)],[(.s x1)]]),(.i (gI (q9 [(.r [[(.s x0)],[(.s x3)]]),(.i x4)]) 1))]) 0)),(.i (gI (q9 [(.r [[(.s x2)],[(.s x1)]]),(.i (gI (q9 [(.r [[(.s x0)],[(.s x3)]]),(.i x4)]) 1))]) 1))]) 1))]) 0)),(.i (gI (q9 [(.r [[(.s x1)],[(.s x3)]]),(.i (gI (wH [(.s (gS (q9 [(.r [[(.s x0)],[(.s x3)]]),(.i x4)]) 0)),(.s (gS (q9 [(.r [[(.s x2)],[(.s x1)]]),(.i (gI (q9 [(.r [[(.s x0)],[(.s x3)]]),(.i x4)]) 1))]) 0)),(.i (gI (q9 [(.r [[(.s x2)],[(.s x1)]]),(.i (gI (q9 [(.r [[(.s x0)],[(.s x3)]]),(.i x4)]) 1))]) 1))]) 1))]) 1))])) .fail) .fail) .fail) .fail):=by kernel_rfl
theorem qas(x0:List UInt8)(x1:List UInt8):ww [.s x0,.s x1]=(.br (okR (qR [(.r [[(.s x0)],[(.s x1)]])])) (.br (ine (gI (qR [(.r [[(.s x0)],[(.s x1)]])]) 0) 0) (.leaf (0,[(.s []),(.i (gI (qR [(.r [[(.s x0)],[(.s x1)]])]) 0))])) (.br (okR (q8 [(.s x0)])) (.br (okR (q8 [(.s x1)])) (.br (okR (zB [(.s (gS (q8 [(.s x0)]) 0)),(.s (gS (q8 [(.s x0)]) 1)),(.s (gS (q8 [(.s x1)]) 0)),(.s (gS (q8 [(.s x1)]) 1)),(.i 0)])) (.br (ine (gI (zB [(.s (gS (q8 [(.s x0)]) 0)),(.s (gS (q8 [(.s x0)]) 1)),(.s (gS (q8 [(.s x1)]) 0)),(.s (gS (q8 [(.s x1)]) 1)),(.i 0)]) 2) 0) (.leaf (0,[(.s []),(.i (gI (zB [(.s (gS (q8 [(.s x0)]) 0)),(.s (gS (q8 [(.s x0)]) 1)),(.s (gS (q8 [(.s x1)]) 0)),(.s (gS (q8 [(.s x1)]) 1)),(.i 0)]) 2))])) (.br (seq (gS (zB [(.s (gS (q8 [(.s x0)]) 0)),(.s (gS (q8 [(.s x0)]) 1)),(.s (gS (q8 [(.s x1)]) 0)),(.s (gS (q8 [(.s x1)]) 1)),(.i 0)]) 1) [48]) (.leaf (0,[(.s []),(.i 10)])) (.br (okR (qM [(.s (gS (zB [(.s (gS (q8 [(.s x0)]) 0)),(.s (gS (q8 [(.s x0)]) 1)),(.s (gS (q8 [(.s x1)]) 0)),(.s (gS (q8 [(.s x1)]) 1)),(.i 0)]) 0)),(.s (gS (zB [(.s (gS (q8 [(.s x0)]) 0)),(.s (gS (q8 [(.s x0)]) 1)),(.s (gS (q8 [(.s x1)]) 0)),(.s (gS (q8 [(.s x1)]) 1)),(.i 0)]) 1)),(.i (gI (zB [(.s (gS (q8 [(.s x0)]) 0)),(.s (gS (q8 [(.s x0)]) 1)),(.s (gS (q8 [(.s x1)]) 0)),(.s (gS (q8 [(.s x1)]) 1)),(.i 0)]) 2))])) (.leaf (0,[(.s (gS (qM [(.s (gS (zB [(.s (gS (q8 [(.s x0)]) 0)),(.s (gS (q8 [(.s x0)]) 1)),(.s (gS (q8 [(.s x1)]) 0)),(.s (gS (q8 [(.s x1)]) 1)),(.i 0)]) 0)),(.s (gS (zB [(.s (gS (q8 [(.s x0)]) 0)),(.s (gS (q8 [(.s x0)]) 1)),(.s (gS (q8 [(.s x1)]) 0)),(.s (gS (q8 [(.s x1)]) 1)),(.i 0)]) 1)),(.i (gI (zB [(.s (gS (q8 [(.s x0)]) 0)),(.s (gS (q8 [(.s x0)]) 1)),(.s (gS (q8 [(.s x1)]) 0)),(.s (gS (q8 [(.s x1)]) 1)),(.i 0)]) 2))]) 0)),(.i (gI (qM [(.s (gS (zB [(.s (gS (q8 [(.s x0)]) 0)),(.s (gS (q8 [(.s x0)]) 1)),(.s (gS (q8 [(.s x1)]) 0)),(.s (gS (q8 [(.s x1)]) 1)),(.i 0)]) 0)),(.s (gS (zB [(.s (gS (q8 [(.s x0)]) 0)),(.s (gS (q8 [(.s x0)]) 1)),(.s (gS (q8 [(.s x1)]) 0)),(.s (gS (q8 [(.s x1)]) 1)),(.i 0)]) 1)),(.i (gI (zB [(.s (gS (q8 [(.s x0)]) 0)),(.s (gS (q8 [(.s x0)]) 1)),(.s (gS (q8 [(.s x1)]) 0)),(.s (gS (q8 [(.s x1)]) 1)),(.i 0)]) 2))]) 1))])) .fail))) .fail) .fail) .fail)) .fail):=by kernel_rfl
theorem qqE(x0:List UInt8)(x1:List UInt8):ky [.s x0,.s x1]=(.br (okR (ww [(.s x0),(.s x1)])) (.leaf (0,[(.s (gS (ww [(.s x0),(.s x1)]) 0)),(.i (gI (ww [(.s x0),(.s x1)]) 1))])) .fail):=by kernel_rfl
theorem q9H(x0:List UInt8)(x1:List UInt8)(x2:Int):we [.s x0,.s x1,.i x2]=(.br (ine x2 0) (.leaf (0,[(.s [48]),(.i x2)])) (.br (okR (ky [(.s x0),(.s x1)])) (.br (ine (gI (ky [(.s x0),(.s x1)]) 1) 0) (.leaf (0,[(.s [48]),(.i (gI (ky [(.s x0),(.s x1)]) 1))])) (.leaf (0,[(.s (gS (ky [(.s x0),(.s x1)]) 0)),(.i (gI (ky [(.s x0),(.s x1)]) 1))]))) .fail)):=by kernel_rfl
theorem qjQ(x0:List UInt8)(x1:List UInt8)(x2:Int):zu [.s x0,.s x1,.i x2]=(.br (okR (we [(.s x0),(.s x1),(.i x2)])) (.leaf (0,[(.s (gS (we [(.s x0),(.s x1),(.i x2)]) 0)),(.i (gI (we [(.s x0),(.s x1),(.i x2)]) 1))])) .fail):=by kernel_rfl
theorem qnc(x0:List UInt8)(x1:List UInt8)(x2:List UInt8)(x3:List UInt8)(x4:Int):zC [.s x0,.s x1,.s x2,.s x3,.i x4]=(.br (okR (q9 [(.r [[(.s x0)],[(.s x2)]]),(.i x4)])) (.br (okR (q9 [(.r [[(.s x1)],[(.s x3)]]),(.i (gI (q9 [(.r [[(.s x0)],[(.s x2)]]),(.i x4)]) 1))])) (.leaf (0,[(.s (gS (q9 [(.r [[(.s x0)],[(.s x2)]]),(.i x4)]) 0)),(.s (gS (q9 [(.r [[(.s x1)],[(.s x3)]]),(.i (gI (q9 [(.r [[(.s x0)],[(.s x2)]]),(.i x4)]) 1))]) 0)),(.i (gI (q9 [(.r [[(.s x1)],[(.s x3)]]),(.i (gI (q9 [(.r [[(.s x0)],[(.s x2)]]),(.i x4)]) 1))]) 1))])) .fail) .fail):=by kernel_rfl
theorem qb3(x0:List UInt8)(x1:List UInt8):wx [.s x0,.s x1]=(.br (okR (qR [(.r [[(.s x0)],[(.s x1)]])])) (.br (ine (gI (qR [(.r [[(.s x0)],[(.s x1)]])]) 0) 0) (.leaf (0,[(.s []),(.i (gI (qR [(.r [[(.s x0)],[(.s x1)]])]) 0))])) (.br (okR (q8 [(.s x0)])) (.br (okR (q8 [(.s x1)])) (.br (okR (zC [(.s (gS (q8 [(.s x0)]) 0)),(.s (gS (q8 [(.s x0)]) 1)),(.s (gS (q8 [(.s x1)]) 0)),(.s (gS (q8 [(.s x1)]) 1)),(.i 0)])) (.br (ine (gI (zC [(.s (gS (q8 [(.s x0)]) 0)),(.s (gS (q8 [(.s x0)]) 1)),(.s (gS (q8 [(.s x1)]) 0)),(.s (gS (q8 [(.s x1)]) 1)),(.i 0)]) 2) 0) (.leaf (0,[(.s []),(.i (gI (zC [(.s (gS (q8 [(.s x0)]) 0)),(.s (gS (q8 [(.s x0)]) 1)),(.s (gS (q8 [(.s x1)]) 0)),(.s (gS (q8 [(.s x1)]) 1)),(.i 0)]) 2))])) (.br (seq (gS (zC [(.s (gS (q8 [(.s x0)]) 0)),(.s (gS (q8 [(.s x0)]) 1)),(.s (gS (q8 [(.s x1)]) 0)),(.s (gS (q8 [(.s x1)]) 1)),(.i 0)]) 1) [48]) (.leaf (0,[(.s []),(.i 10)])) (.br (okR (qM [(.s (gS (zC [(.s (gS (q8 [(.s x0)]) 0)),(.s (gS (q8 [(.s x0)]) 1)),(.s (gS (q8 [(.s x1)]) 0)),(.s (gS (q8 [(.s x1)]) 1)),(.i 0)]) 0)),(.s (gS (zC [(.s (gS (q8 [(.s x0)]) 0)),(.s (gS (q8 [(.s x0)]) 1)),(.s (gS (q8 [(.s x1)]) 0)),(.s (gS (q8 [(.s x1)]) 1)),(.i 0)]) 1)),(.i (gI (zC [(.s (gS (q8 [(.s x0)]) 0)),(.s (gS (q8 [(.s x0)]) 1)),(.s (gS (q8 [(.s x1)]) 0)),(.s (gS (q8 [(.s x1)]) 1)),(.i 0)]) 2))])) (.leaf (0,[(.s (gS (qM [(.s (gS (zC [(.s (gS (q8 [(.s x0)]) 0)),(.s (gS (q8 [(.s x0)]) 1)),(.s (gS (q8 [(.s x1)]) 0)),(.s (gS (q8 [(.s x1)]) 1)),(.i 0)]) 0)),(.s (gS (zC [(.s (gS (q8 [(.s x0)]) 0)),(.s (gS (q8 [(.s x0)]) 1)),(.s (gS (q8 [(.s x1)]) 0)),(.s (gS (q8 [(.s x1)]) 1)),(.i 0)]) 1)),(.i (gI (zC [(.s (gS (q8 [(.s x0)]) 0)),(.s (gS (q8 [(.s x0)]) 1)),(.s (gS (q8 [(.s x1)]) 0)),(.s (gS (q8 [(.s x1)]) 1)),(.i 0)]) 2))]) 0)),(.i (gI (qM [(.s (gS (zC [(.s (gS (q8 [(.s x0)]) 0)),(.s (gS (q8 [(.s x0)]) 1)),(.s (gS (q8 [(.s x1)]) 0)),(.s (gS (q8 [(.s x1)]) 1)),(.i 0)]) 0)),(.s (gS (zC [(.s (gS (q8 [(.s x0)]) 0)),(.s (gS (q8 [(.s x0)]) 1)),(.s (gS (q8 [(.s x1)]) 0)),(.s (gS (q8 [(.s x1)]) 1)),(.i 0)]) 1)),(.i (gI (zC [(.s (gS (q8 [(.s x0)]) 0)),(.s (gS (q8 [(.s x0)]) 1)),(.s (gS (q8 [(.s x1)]) 0)),(.s (gS (q8 [(.s x1)]) 1)),(.i 0)]) 2))]) 1))])) .fail))) .fail) .fail) .fail)) .fail):=by kernel_rfl
theorem qqz(x0:List UInt8)(x1:List UInt8):kZ [.s x0,.s x1]=(.br (okR (wx [(.s x0),(.s x1)])) (.leaf (0,[(.s (gS (wx [(.s x0),(.s x1)]) 0)),(.i (gI (wx [(.s x0),(.s x1)]) 1))])) .fail):=by kernel_rfl
theorem q9I(x0:List UInt8)(x1:List UInt8)(x2:Int):zZ [.s x0,.s x1,.i x2]=(.br (ine x2 0) (.leaf (0,[(.s [48]),(.i x2)])) (.br (okR (kZ [(.s x0),(.s x1)])) (.br (ine (gI (kZ [(.s x0),(.s x1)]) 1) 0) (.leaf (0,[(.s [48]),(.i (gI (kZ [(.s x0),(.s x1)]) 1))])) (.leaf (0,[(.s (gS (kZ [(.s x0),(.s x1)]) 0)),(.i (gI (kZ [(.s x0),(.s x1)]) 1))]))) .fail)):=by kernel_rfl
theorem qj1(x0:List UInt8)(x1:List UInt8)(x2:Int):qu [.s x0,.s x1,.i x2]=(.br (okR (zZ [(.s x0),(.s x1),(.i x2)])) (.leaf (0,[(.s (gS (zZ [(.s x0),(.s x1),(.i x2)]) 0)),(.i (gI (zZ [(.s x0),(.s x1),(.i x2)]) 1))])) .fail):=by kernel_rfl
theorem qj0(x0:List UInt8)(x1:List UInt8)(x2:List UInt8)(x3:List UInt8)(x4:Int):zM [.s x0,.s x1,.s x2,.s x3,.i x4]=(.br (okR (qu [(.s x0),(.s x2),(.i x4)])) (.br (okR (qu [(.s x1),(.s x3),(.i (gI (qu [(.s x0),(.s x2),(.i x4)]) 1))])) (.br (okR (zu [(.s (gS (qu [(.s x0),(.s x2),(.i x4)]) 0)),(.s (gS (qu [(.s x1),(.s x3),(.i (gI (qu [(.s x0),(.s x2),(.i x4)]) 1))]) 0)),(.i (gI (qu [(.s x1),(.s x3),(.i (gI (qu [(.s x0),(.s x2),(.i x4)]) 1))]) 1))])) (.leaf (0,[(.s (gS (zu [(.s (gS (qu [(.s x0),(.s x2),(.i x4)]) 0)),(.s (gS (qu [(.s x1),(.s x3),(.i (gI (qu [(.s x0),(.s x2),(.i x4)]) 1))]) 0)),(.i (gI (qu [(.s x1),(.s x3),(.i (gI (qu [(.s x0),(.s x2),(.i x4)]) 1))]) 1))]) 0)),(.i (gI (zu [(.s (gS (qu [(.s x0),(.s x2),(.i x4)]) 0)),(.s (gS (qu [(.s x1),(.s x3),(.i (gI (qu [(.s x0),(.s x2),(.i x4)]) 1))]) 0)),(.i (gI (qu [(.s x1),(.s x3),(.i (gI (qu [(.s x0),(.s x2),(.i x4)]) 1))]) 1))]) 1))])) .fail) .fail) .fail):=by kernel_rfl
theorem qng(x0:List UInt8)(x1:List UInt8)(x2:List UInt8)(x3:List UInt8)(x4:Int):zF [.s x0,.s x1,.s x2,.s x3,.i x4]=(.br (okR (q9 [(.r [[(.s x0)],[(.s x3)]]),(.i x4)])) (.br (okR (q9 [(.r [[(.s x1)],[(.s x2)]]),(.i (gI (q9 [(.r [[(.s x0)],[(.s x3)]]),(.i x4)]) 1))])) (.leaf (0,[(.s (gS (q9 [(.r [[(.s x0)],[(.s x3)]]),(.i x4)]) 0)),(.s (gS (q9 [(.r [[(.s x1)],[(.s x2)]]),(.i (gI (q9 [(.r [[(.s x0)],[(.s x3)]]),(.i x4)]) 1))]) 0)),(.i (gI (q9 [(.r [[(.s x1)],[(.s x2)]]),(.i (gI (q9 [(.r [[(.s x0)],[(.s x3)]]),(.i x4)]) 1))]) 1))])) .fail) .fail):=by kernel_rfl
theorem qaU(x0:List UInt8)(x1:List UInt8):wz [.s x0,.s x1]=(.br (okR (qR [(.r [[(.s x0)],[(.s x1)]])])) (.br (ine (gI (qR [(.r [[(.s x0)],[(.s x1)]])]) 0) 0) (.leaf (0,[(.s []),(.i (gI (qR [(.r [[(.s x0)],[(.s x1)]])]) 0))])) (.br (okR (q8 [(.s x0)])) (.br (okR (q8 [(.s x1)])) (.br (okR (zF [(.s (gS (q8 [(.s x0)]) 0)),(.s (gS (q8 [(.s x0)]) 1)),(.s (gS (q8 [(.s x1)]) 0)),(.s (gS (q8 [(.s x1)]) 1)),(.i 0)])) (.br (ine (gI (zF [(.s (gS (q8 [(.s x0)]) 0)),(.s (gS (q8 [(.s x0)]) 1)),(.s (gS (q8 [(.s x1)]) 0)),(.s (gS (q8 [(.s x1)]) 1)),(.i 0)]) 2) 0) (.leaf (0,[(.s []),(.i (gI (zF [(.s (gS (q8 [(.s x0)]) 0)),(.s (gS (q8 [(.s x0)]) 1)),(.s (gS (q8 [(.s x1)]) 0)),(.s (gS (q8 [(.s x1)]) 1)),(.i 0)]) 2))])) (.br (seq (gS (zF [(.s (gS (q8 [(.s x0)]) 0)),(.s (gS (q8 [(.s x0)]) 1)),(.s (gS (q8 [(.s x1)]) 0)),(.s (gS (q8 [(.s x1)]) 1)),(.i 0)]) 1) [48]) (.leaf (0,[(.s []),(.i 10)])) (.br (okR (qM [(.s (gS (zF [(.s (gS (q8 [(.s x0)]) 0)),(.s (gS (q8 [(.s x0)]) 1)),(.s (gS (q8 [(.s x1)]) 0)),(.s (gS (q8 [(.s x1)]) 1)),(.i 0)]) 0)),(.s (gS (zF [(.s (gS (q8 [(.s x0)]) 0)),(.s (gS (q8 [(.s x0)]) 1)),(.s (gS (q8 [(.s x1)]) 0)),(.s (gS (q8 [(.s x1)]) 1)),(.i 0)]) 1)),(.i (gI (zF [(.s (gS (q8 [(.s x0)]) 0)),(.s (gS (q8 [(.s x0)]) 1)),(.s (gS (q8 [(.s x1)]) 0)),(.s (gS (q8 [(.s x1)]) 1)),(.i 0)]) 2))])) (.leaf (0,[(.s (gS (qM [(.s (gS (zF [(.s (gS (q8 [(.s x0)]) 0)),(.s (gS (q8 [(.s x0)]) 1)),(.s (gS (q8 [(.s x1)]) 0)),(.s (gS (q8 [(.s x1)]) 1)),(.i 0)]) 0)),(.s (gS (zF [(.s (gS (q8 [(.s x0)]) 0)),(.s (gS (q8 [(.s x0)]) 1)),(.s (gS (q8 [(.s x1)]) 0)),(.s (gS (q8 [(.s x1)]) 1)),(.i 0)]) 1)),(.i (gI (zF [(.s (gS (q8 [(.s x0)]) 0)),(.s (gS (q8 [(.s x0)]) 1)),(.s (gS (q8 [(.s x1)]) 0)),(.s (gS (q8 [(.s x1)]) 1)),(.i 0)]) 2))]) 0)),(.i (gI (qM [(.s (gS (zF [(.s (gS (q8 [(.s x0)]) 0)),(.s (gS (q8 [(.s x0)]) 1)),(.s (gS (q8 [(.s x1)]) 0)),(.s (gS (q8 [(.s x1)]) 1)),(.i 0)]) 0)),(.s (gS (zF [(.s (gS (q8 [(.s x0)]) 0)),(.s (gS (q8 [(.s x0)]) 1)),(.s (gS (q8 [(.s x1)]) 0)),(.s (gS (q8 [(.s x1)]) 1)),(.i 0)]) 1)),(.i (gI (zF [(.s (gS (q8 [(.s x0)]) 0)),(.s (gS (q8 [(.s x0)]) 1)),(.s (gS (q8 [(.s x1)]) 0)),(.s (gS (q8 [(.s x1)]) 1)),(.i 0)]) 2))]) 1))])) .fail))) .fail) .fail) .fail)) .fail):=by kernel_rfl
theorem qqu(x0:List UInt8)(x1:List UInt8):kx [.s x0,.s x1]=(.br (okR (qR [(.r [[(.s x0)],[(.s x1)]])])) (.br (ine (gI (qR [(.r [[(.s x0)],[(.s x1)]])]) 0) 0) (.leaf (0,[(.s []),(.i (gI (qR [(.r [[(.s x0)],[(.s x1)]])]) 0))])) (.br (seq x1 [48]) (.leaf (0,[(.s []),(.i 10)])) (.br (okR (wz [(.s x0),(.s x1)])) (.leaf (0,[(.s (gS (wz [(.s x0),(.s x1)]) 0)),(.i (gI (wz [(.s x0),(.s x1)]) 1))])) .fail))) .fail):=by kernel_rfl
theorem q9N(x0:List UInt8)(x1:List UInt8)(x2:Int):wO [.s x0,.s x1,.i x2]=(.br (ine x2 0) (.leaf (0,[(.s [48]),(.i x2)])) (.br (okR (kx [(.s x0),(.s x1)])) (.br (ine (gI (kx [(.s x0),(.s x1)]) 1) 0) (.leaf (0,[(.s [48]),(.i (gI (kx [(.s x0),(.s x1)]) 1))])) (.leaf (0,[(.s (gS (kx [(.s x0),(.s x1)]) 0)),(.i (gI (kx [(.s x0),(.s x1)]) 1))]))) .fail)):=by kernel_rfl
theorem qh2(x0:R)(x1:Int)(x2:Int)(x3:Int)(x4:Int):j5 [.r x0,.i x1,.i x2,.i x3,.i x4]=(.br (inb x1 (qL x0)) (.br (inb x2 (qL x0)) (.br (ieq x1 x2) (.leaf (0,[(.s (cS x0 x1 0)),(.s (cS x0 x1 1)),(.s [48]),(.s [48]),(.s [48]),(.b (ieq x3 0)),(.i x4)])) (let r0:TR:=(qH [(.s (cS x0 x2 0)),(.s (cS x0 x2 1)),(.s (cS x0 x1 0)),(.s (cS x0 x1 1)),(.i x4)])
 .br (okR r0) (let r1:TR:=(zM [(.s (gS r0 0)),(.s (gS r0 1)),(.s (gS r0 0)),(.s (gS r0 1)),(.i (gI r0 2))])
 .br (okR r1) (.br (seq (gS r1 0) [48]) (.leaf (0,[(.s []),(.s []),(.s []),(.s []),(.s []),(.b false),(.i (gI r1 1))])) (let r2:TR:=(zu [(.s (gS r1 0)),(.s (cS x0 x1 2)),(.i (gI r1 1))])
 .br (okR r2) (let r3:TR:=(qz [(.s (gS r2 0)),(.s (cS x0 x2 2)),(.i (gI r2 1))])
 .br (okR r3) (let r4:TR:=(qu [(.s [50]),(.s (gS r1 0)),(.i (gI r3 1))])
 .br (okR r4) (let r5:TR:=(wO [(.s (gS r3 0)),(.s (gS r4 0)),(.i (gI r4 1))])
 .br (okR r5) (let r6:TR:=(qu [(.s (gS r5 0)),(.s (gS r0 0)),(.i (gI r5 1))])
 .br (okR r6) (let r7:TR:=(zu [(.s (cS x0 x1 0)),(.s (gS r6 0)),(.i (gI r6 1))])
 .br (okR r7) (let r8:TR:=(qu [(.s (gS r5 0)),(.s (gS r0 1)),(.i (gI r7 1))])
 .br (okR r8) (let r9:TR:=(zu [(.s (cS x0 x1 1)),(.s (gS r8 0)),(.i (gI r8 1))])
 .br (okR r9) (let r10:TR:=(qz [(.s [48]),(.s (gS r0 1)),(.i (gI r9 1))])
 .br (okR r10) (let r11:TR:=(wO [(.s (cS x0 x1 2)),(.s (gS r1 0)),(.i (gI r10 1))])
 .br (okR r11) (let r12:TR:=(qu [(.s (gS r5 0)),(.s (gS r5 0)),(.i (gI r11 1))])
 .br (okR r12) (let r13:TR:=(qz [(.s (gS r11 0)),(.s (gS r12 0)),(.i (gI r12 1))])
 .br (okR r13) (.br (ilt x3 0) (let r14:TR:=(qz [(.s [48]),(.s (gS r0 0)),(.i (gI r13 1))])
 .br (okR r14) (.br (ieq (gI r14 1) 0) (.br (inb 0 (qw (gS r13 0))) (.br (ine (sat (gS r13 0) 0) 45) (.leaf (0,[(.s (gS r7 0)),(.s (gS r9 0)),(.s (gS r0 1)),(.s (gS r14 0)),(.s (gS r13 0)),(.b (beq (seq (gS r13 0) [48]) (ieq x3 0))),(.i (gI r14 1))])) (.leaf (0,[(.s (gS r7 0)),(.s (gS r9 0)),(.s (gS r0 1)),(.s (gS r14 0)),(.s (gS r13 0)),(.b false),(.i (gI r14 1))]))) .fail) (.leaf (0,[(.s (gS r7 0)),(.s (gS r9 0)),(.s (gS r0 1)),(.s (gS r14 0)),(.s (gS r13 0)),(.b false),(.i (gI r14 1))]))) .fail) (.br (ieq (gI r13 1) 0) (.br (inb 0 (qw (gS r13 0))) (.br (ine (sat (gS r13 0) 0) 45) (.leaf (0,[(.s (gS r7 0)),(.s (gS r9 0)),(.s (gS r10 0)),(.s (gS r0 0)),(.s (gS r13 0)),(.b (beq (seq (gS r13 0) [48]) (ieq x3 0))),(.i (gI r13 1))])) (.leaf (0,[(.s (gS r7 0)),(.s (gS r9 0)),(.s (gS r10 0)),(.s (gS r0 0)),(.s (gS r13 0)),(.b false),(.i (gI r13 1))]))) .fail) (.leaf (0,[(.s (gS r7 0)),(.s (gS r9 0)),(.s (gS r10 0)),(.s (gS r0 0)),(.s (gS r13 0)),(.b false),(.i (gI r13 1))])))) .fail) .fail) .fail) .fail) .fail) .fail) .fail) .fail) .fail) .fail) .fail) .fail)) .fail) .fail)) .fail) .fail):=by kernel_rfl
theorem qpb(x0:List UInt8):q2s [.s x0]=(.br (okR (qJ [(.s x0)])) (.br (ine (gI (qJ [(.s x0)]) 0) 0) (.leaf (0,[(.i 0),(.i (gI (qJ [(.s x0)]) 0))])) (.br (okR (zS [(.s x0)])) (.leaf (0,[(.i (gI (zS [(.s x0)]) 0)),(.i 0)])) .fail)) .fail):=by kernel_rfl
theorem qiJ(x0:List UInt8)(x1:Int):wy [.s x0,.i x1]=(.br (ine x1 0) (.leaf (0,[(.i 0),(.i x1)])) (.br (okR (q2s [(.s x0)])) (.leaf (0,[(.i (gI (q2s [(.s x0)]) 0)),(.i (gI (q2s [(.s x0)]) 1))])) .fail)):=by kernel_rfl
theorem qhp(x0:List UInt8)(x1:List UInt8)(x2:List UInt8)(x3:Int):yU [.s x0,.s x1,.s x2,.i x3]=(let r0:TR:=(wy [(.s x0),(.i x3)])
 .br (okR r0) (let r1:TR:=(wy [(.s x1),(.i (gI r0 1))])
 .br (okR r1) (let r2:TR:=(wy [(.s x2),(.i (gI r1 1))])
 .br (okR r2) (.br (ile 0 (q0Q .i64 (gI r0 0) (q0Q .i64 (gI r1 0) (gI r2 0)))) (.br (ine (gI r0 0) 0) (.leaf (0,[(.i (gI r0 0)),(.i (gI r2 1))])) (.leaf (0,[(.i (q0Q .i64 (gI r1 0) (gI r2 0))),(.i (gI r2 1))]))) (let r3:TR:=(q9 [(.r [[(.s x0)],[(.s x0)]]),(.i (gI r2 1))])
 .br (okR r3) (let r4:TR:=(q9 [(.r [[(.s x1)],[(.s x1)],[(.s x2)]]),(.i (gI r3 1))])
 .br (okR r4) (let r5:TR:=(zm [(.s (gS r3 0)),(.s (gS r4 0)),(.i (gI r4 1))])
 .br (okR r5) (let r6:TR:=(wy [(.s (gS r5 0)),(.i (gI r5 1))])
 .br (okR r6) (.leaf (0,[(.i (q0Q .i64 (gI r0 0) (gI r6 0))),(.i (gI r6 1))])) .fail) .fail) .fail) .fail)) .fail) .fail) .fail):=by kernel_rfl
theorem qht(x0:List UInt8)(x1:List UInt8)(x2:List UInt8)(x3:List UInt8)(x4:List UInt8):jz [.s x0,.s x1,.s x2,.s x3,.s x4]=(let r0:TR:=(qR [(.r [[(.s x0)],[(.s x1)],[(.s x2)],[(.s x3)],[(.s x4)]])])
 .br (okR r0) (.br (ine (gI r0 0) 0) (.leaf (0,[(.i 0),(.i (gI r0 0))])) (.br (inb 0 (qw x2)) (.br (ieq (sat x2 0) 45) (.leaf (0,[(.i 0),(.i 2)])) (.br (inb 0 (qw x4)) (.br (ieq (sat x4 0) 45) (.leaf (0,[(.i 0),(.i 2)])) (let r1:TR:=(q8 [(.s x0)])
 .br (okR r1) (let r2:TR:=(q8 [(.s x1)])
 .br (okR r2) (let r3:TR:=(q8 [(.s x2)])
 .br (okR r3) (let r4:TR:=(q8 [(.s x3)])
 .br (okR r4) (let r5:TR:=(q8 [(.s x4)])
 .br (okR r5) (let r6:TR:=(q9 [(.r [[(.s (gS r1 0))],[(.s (gS r2 1))],[(.s (gS r3 1))],[(.s (gS r4 1))],[(.s (gS r5 1))]]),(.i 0)])
 .br (okR r6) (let r7:TR:=(q9 [(.r [[(.s (gS r2 0))],[(.s (gS r1 1))],[(.s (gS r4 1))],[(.s (gS r5 1))]]),(.i (gI r6 1))])
 .br (okR r7) (let r8:TR:=(q9 [(.r [[(.s (gS r3 0))],[(.s (gS r3 1))]]),(.i (gI r7 1))])
 .br (okR r8) (let r9:TR:=(q9 [(.r [[(.s (gS r4 0))],[(.s (gS r1 1))],[(.s (gS r2 1))],[(.s (gS r3 1))]]),(.i (gI r8 1))])
 .br (okR r9) (let r10:TR:=(q9 [(.r [[(.s (gS r5 0))],[(.s (gS r5 1))]]),(.i (gI r9 1))])
 .br (okR r10) (let r11:TR:=(yU [(.s (gS r6 0)),(.s (gS r7 0)),(.s (gS r8 0)),(.i (gI r10 1))])
 .br (okR r11) (let r12:TR:=(wy [(.s (gS r9 0)),(.i (gI r11 1))])
 .br (okR r12) (let r13:TR:=(wy [(.s (gS r10 0)),(.i (gI r12 1))])
 .br (okR r13) (.br (ile 0 (q0Q .i64 (gI r11 0) (q0Q .i64 (gI r12 0) (gI r13 0)))) (.br (ieq (gI r11 0) 0) (.leaf (0,[(.i (q0Q .i64 (gI r12 0) (gI r13 0))),(.i (gI r13 1))])) (.leaf (0,[(.i (gI r11 0)),(.i (gI r13 1))]))) (let r14:TR:=(q9 [(.r [[(.s (gS r6 0))],[(.s (gS r6 0))]]),(.i (gI r13 1))])
 .br (okR r14) (let r15:TR:=(q9 [(.r [[(.s (gS r7 0))],[(.s (gS r7 0))],[(.s (gS r8 0))]]),(.i (gI r14 1))])
 .br (okR r15) (let r16:TR:=(wH [(.s (gS r14 0)),(.s (gS r15 0)),(.i (gI r15 1))])
 .br (okR r16) (let r17:TR:=(q9 [(.r [[(.s (gS r9 0))],[(.s (gS r9 0))],[(.s (gS r10 0))]]),(.i (gI r16 1))])
 .br (okR r17) (let r18:TR:=(zm [(.s (gS r16 0)),(.s (gS r17 0)),(.i (gI r17 1))])
 .br (okR r18) (let r19:TR:=(q9 [(.r [[(.s [50])],[(.s (gS r6 0))],[(.s (gS r7 0))]]),(.i (gI r18 1))])
 .br (okR r19) (let r20:TR:=(yU [(.s (gS r18 0)),(.s (gS r19 0)),(.s (gS r8 0)),(.i (gI r19 1))])
 .br (okR r20) (.br (ine (gI r20 1) 0) (.leaf (0,[(.i 0),(.i (gI r20 1))])) (.leaf (0,[(.i (q0Q .i64 (gI r11 0) (gI r20 0))),(.i 0)]))) .fail) .fail) .fail) .fail) .fail) .fail) .fail)) .fail) .fail) .fail) .fail) .fail) .fail) .fail) .fail) .fail) .fail) .fail) .fail) .fail)) .fail)) .fail)) .fail):=by kernel_rfl
theorem qjU(x0:List UInt8)(x1:List UInt8)(x2:List UInt8):yv [.s x0,.s x1,.s x2]=(.br (okR (jz [(.s x0),(.s x1),(.s x2),(.s [48]),(.s [48])])) (.leaf (0,[(.i (gI (jz [(.s x0),(.s x1),(.s x2),(.s [48]),(.s [48])]) 0)),(.i (gI (jz [(.s x0),(.s x1),(.s x2),(.s [48]),(.s [48])]) 1))])) .fail):=by kernel_rfl
theorem qiT(x0:List UInt8)(x1:List UInt8)(x2:List UInt8)(x3:Int):wA [.s x0,.s x1,.s x2,.i x3]=(.br (ine x3 0) (.leaf (0,[(.i 0),(.i x3)])) (.br (okR (yv [(.s x0),(.s x1),(.s x2)])) (.leaf (0,[(.i (gI (yv [(.s x0),(.s x1),(.s x2)]) 0)),(.i (gI (yv [(.s x0),(.s x1),(.s x2)]) 1))])) .fail)):=by kernel_rfl
theorem qgo(x0:List UInt8)(x1:List UInt8)(x2:List UInt8)(x3:List UInt8)(x4:List UInt8)(x5:List UInt8)(x6:List UInt8)(x7:List UInt8)(x8:Int):wP [.s x0,.s x1,.s x2,.s x3,.s x4,.s x5,.s x6,.s x7,.i x8]=(let r0:TR:=(qH [(.s x3),(.s x4),(.s x0),(.s x1),(.i x8)])
 .br (okR r0) (let r1:TR:=(zM [(.s (gS r0 0)),(.s (gS r0 1)),(.s (gS r0 0)),(.s (gS r0 1)),(.i (gI r0 2))])
 .br (okR r1) (let r2:TR:=(zM [(.s x5),(.s x6),(.s x5),(.s x6),(.i (gI r1 1))])
 .br (okR r2) (let r3:TR:=(qu [(.s x7),(.s (gS r2 0)),(.i (gI r2 1))])
 .br (okR r3) (let r4:TR:=(zu [(.s (gS r1 0)),(.s (gS r3 0)),(.i (gI r3 1))])
 .br (okR r4) (let r5:TR:=(qz [(.s (gS r4 0)),(.s x2),(.i (gI r4 1))])
 .br (okR r5) (let r6:TR:=(zM [(.s (gS r0 0)),(.s (gS r0 1)),(.s x5),(.s x6),(.i (gI r5 1))])
 .br (okR r6) (let r7:TR:=(qu [(.s [50]),(.s (gS r6 0)),(.i (gI r6 1))])
 .br (okR r7) (let r8:TR:=(wA [(.s (gS r5 0)),(.s (gS r7 0)),(.s x7),(.i (gI r7 1))])
 .br (okR r8) (.leaf (0,[(.b (ile (gI r8 0) 0)),(.i (gI r8 1))])) .fail) .fail) .fail) .fail) .fail) .fail) .fail) .fail) .fail):=by kernel_rfl
theorem uu(y0:R)(y1:Int)(y2:Int)(y3:R)(y4:R)(y5:R)(y6:Int)(y7:Int)(y8:Int)(y9:Bool)(y10:List UInt8)(y11:List UInt8)(y12:List UInt8)(y13:List UInt8)(y14:List UInt8)(y15:Bool)(y16:R)(y17:Int)(y18:Int)(y19:Int)(y20:List UInt8)(y21:List UInt8)(y22:List UInt8)(y23:List UInt8)(y24:List UInt8)(y25:Bool)(y26:List UInt8)(y27:List UInt8)(y28:List UInt8)(y29:List UInt8)(y30:List UInt8)(y31:Bool)(y32:Bool)(y33:R)(y34:Int)(y35:Int)(y36:Int)(y37:Int)(y38:List UInt8)(y39:List UInt8)(y40:List UInt8)(y41:List UInt8)(y42:List UInt8):vC [.r y0,.i y1,.i y2,.r y3,.r y4,.r y5,.i y6,.i y7,.i y8,.b y9,.s y10,.s y11,.s y12,.s y13,.s y14,.b y15,.r y16,.i y17,.i y18,.i y19,.s y20,.s y21,.s y22,.s y23,.s y24,.b y25,.s y26,.s y27,.s y28,.s y29,.s y30,.b y31,.b y32,.r y33,.i y34,.i y35,.i y36,.i y37,.s y38,.s y39,.s y40,.s y41,.s y42]=(.br (ilt y2 y1) (.br (inb y2 (qL y0)) (.br (okR (wP [(.s (cS y0 y2 0)),(.s (cS y0 y2 1)),(.s (cS y0 y2 2)),(.s y38),(.s y39),(.s y40),(.s y41),(.s y42),(.i y34)])) (.br (not (gB (wP [(.s (cS y0 y2 0)),(.s (cS y0 y2 1)),(.s (cS y0 y2 2)),(.s y38),(.s y39),(.s y40),(.s y41),(.s y42),(.i y34)]) 0)) (.leaf (2,[(.i y2),(.r y3),(.r y4),(.r y5),(.i y6),(.i y7),(.i y8),(.b y9),(.s y10),(.s y11),(.s y12),(.s y13),(.s y14),(.b y15),(.r y16),(.i y17),(.i y18),(.i y19),(.s y20),(.s y21),(.s y22),(.s y23),(.s y24),(.b y25),(.s y26),(.s y27),(.s y28),(.s y29),(.s y30),(.b y31),(.b y32),(.r y33),(.i (gI (wP [(.s (cS y0 y2 0)),(.s (cS y0 y2 1)),(.s (cS y0 y2 2)),(.s y38),(.s y39),(.s y40),(.s y41),(.s y42),(.i y34)]) 1)),(.i y35),(.i y36),(.i y37),(.s y38),(.s y39),(.s y40),(.s y41),(.s y42)])) (.leaf (0,[(.r y0),(.i y1),(.i (qt .i64 y2 1)),(.r y3),(.r y4),(.r y5),(.i y6),(.i y7),(.i y8),(.b y9),(.s y10),(.s y11),(.s y12),(.s y13),(.s y14),(.b y15),(.r y16),(.i y17),(.i y18),(.i y19),(.s y20),(.s y21),(.s y22),(.s y23),(.s y24),(.b y25),(.s y26),(.s y27),(.s y28),(.s y29),(.s y30),(.b y31),(.b y32),(.r y33),(.i (gI (wP [(.s (cS y0 y2 0)),(.s (cS y0 y2 1)),(.s (cS y0 y2 2)),(.s y38),(.s y39),(.s y40),(.s y41),(.s y42),(.i y34)]) 1)),(.i y35),(.i y36),(.i y37),(.s y38),(.s y39),(.s y40),(.s y41),(.s y42)]))) .fail) .fail) (.leaf (1,[(.r y3),(.r y4),(.r y5),(.i y6),(.i y7),(.i y8),(.b y9),(.s y10),(.s y11),(.s y12),(.s y13),(.s y14),(.b y15),(.r y16),(.i y17),(.i y18),(.i y19),(.s y20),(.s y21),(.s y22),(.s y23),(.s y24),(.b y25),(.s y26),(.s y27),(.s y28),(.s y29),(.s y30),(.b y31),(.b y32),(.r y33),(.i y34),(.i y35),(.i y36),(.i y37),(.s y38),(.s y39),(.s y40),(.s y41),(.s y42)]))):=by kernel_rfl
theorem qfn(x0:R)(x1:Int)(x2:Int)(x3:Int)(x4:Int):z7 [.r x0,.i x1,.i x2,.i x3,.i x4]=(let r0:TR:=(j5 [(.r x0),(.i x1),(.i x2),(.i x3),(.i x4)])
 .br (okR r0) (.br (gB r0 5) (let r1:TR:=(qf vC [(.r x0),(.i (qL x0)),(.i 0),(.r x0),(.r x0),(.r x0),(.i x1),(.i x2),(.i x3),(.b (gB r0 5)),(.s (gS r0 0)),(.s (gS r0 1)),(.s (gS r0 2)),(.s (gS r0 3)),(.s (gS r0 4)),(.b (gB r0 5)),(.r x0),(.i x1),(.i x2),(.i x3),(.s (gS r0 0)),(.s (gS r0 1)),(.s (gS r0 2)),(.s (gS r0 3)),(.s (gS r0 4)),(.b (gB r0 5)),(.s (gS r0 0)),(.s (gS r0 1)),(.s (gS r0 2)),(.s (gS r0 3)),(.s (gS r0 4)),(.b (gB r0 5)),(.b (gB r0 5)),(.r x0),(.i (gI r0 6)),(.i x1),(.i x2),(.i x3),(.s (gS r0 0)),(.s (gS r0 1)),(.s (gS r0 2)),(.s (gS r0 3)),(.s (gS r0 4))])
 .br (okR r1) (.br (jIs r1 0) (.leaf (0,[(.b (ieq (gI r1 31) 0)),(.i (gI r1 31))])) (.br (not (ile 0 (gI r1 0))) (.leaf (0,[(.b (ieq (gI r1 32) 0)),(.i (gI r1 32))])) (.leaf (0,[(.b false),(.i (gI r1 32))])))) .fail) (.leaf (0,[(.b false),(.i (gI r0 6))]))) .fail):=by kernel_rfl
theorem q3i(y0:Int)(y1:Int)(y2:Int)(y3:R)(y4:Int)(y5:Int)(y6:Int)(y7:Bool)(y8:Int):vX [.i y0,.i y1,.i y2,.r y3,.i y4,.i y5,.i y6,.b y7,.i y8]=(.br (ilt y1 y0) (.br (okR (z7 [(.r y3),(.i y1),(.i y1),(.i 0),(.i y2)])) (.br (gB (z7 [(.r y3),(.i y1),(.i y1),(.i 0),(.i y2)]) 0) (.leaf (2,[(.i (gI (z7 [(.r y3),(.i y1),(.i y1),(.i 0),(.i y2)]) 1)),(.r y3),(.i y1),(.i y1),(.i 0),(.b true),(.i y8)])) (.leaf (0,[(.i y0),(.i (qt .i64 y1 1)),(.i (gI (z7 [(.r y3),(.i y1),(.i y1),(.i 0),(.i y2)]) 1)),(.r y3),(.i y4),(.i y5),(.i y6),(.b y7),(.i y8)]))) .fail) (.leaf (1,[(.i y2),(.r y3),(.i y4),(.i y5),(.i y6),(.b y7),(.i y8)]))):=by kernel_rfl
theorem q30(y0:Int)(y1:Int)(y2:Int)(y3:Int)(y4:Int)(y5:Int)(y6:Int)(y7:R)(y8:Int)(y9:Int)(y10:Int)(y11:Bool)(y12:Int)(y13:R):vq [.i y0,.i y1,.i y2,.i y3,.i y4,.i y5,.i y6,.r y7,.i y8,.i y9,.i y10,.b y11,.i y12,.r y13]=(.br (ilt y5 y4) (.br (inb y5 (qL y13)) (.br (okR (z7 [(.r y7),(.i y0),(.i y1),(.i (cI y13 y5 0)),(.i y6)])) (.br (gB (z7 [(.r y7),(.i y0),(.i y1),(.i (cI y13 y5 0)),(.i y6)]) 0) (.leaf (2,[(.i (gI (z7 [(.r y7),(.i y0),(.i y1),(.i (cI y13 y5 0)),(.i y6)]) 1)),(.r y7),(.i y0),(.i y1),(.i (cI y13 y5 0)),(.b true),(.i y12)])) (.leaf (0,[(.i y0),(.i y1),(.i y2),(.i y3),(.i y4),(.i (qt .i64 y5 1)),(.i (gI (z7 [(.r y7),(.i y0),(.i y1),(.i (cI y13 y5 0)),(.i y6)]) 1)),(.r y7),(.i y8),(.i y9),(.i y10),(.b y11),(.i y12),(.r y13)]))) .fail) .fail) (.leaf (1,[(.i y0),(.i y1),(.i y2),(.i y3),(.i y6),(.r y7),(.i y8),(.i y9),(.i y10),(.b y11),(.i y12)]))):=by kernel_rfl
theorem q2Z(y0:Int)(y1:Int)(y2:Int)(y3:Int)(y4:Int)(y5:R)(y6:Int)(y7:Int)(y8:Int)(y9:Bool)(y10:Int):vB [.i y0,.i y1,.i y2,.i y3,.i y4,.r y5,.i y6,.i y7,.i y8,.b y9,.i y10]=(.br (ilt y1 y10) (let r0:TR:=(qf vq [(.i y0),(.i y1),(.i y2),(.i y3),(.i (qL [[(.i 0)],[(.i 1)],[(.i (-1))]])),(.i 0),(.i y4),(.r y5),(.i y6),(.i y7),(.i y8),(.b y9),(.i y10),(.r [[(.i 0)],[(.i 1)],[(.i (-1))]])])
 .br (okR r0) (.br (jIs r0 0) (.leaf (0,[(.i (gI r0 0)),(.i (qt .i64 (gI r0 1) 1)),(.i (gI r0 2)),(.i (gI r0 3)),(.i (gI r0 4)),(.r (gR r0 5)),(.i (gI r0 6)),(.i (gI r0 7)),(.i (gI r0 8)),(.b (gB r0 9)),(.i (gI r0 10))])) (.leaf (2,[(.i (gI r0 0)),(.r (gR r0 1)),(.i (gI r0 2)),(.i (gI r0 3)),(.i (gI r0 4)),(.b (gB r0 5)),(.i (gI r0 6))]))) .fail) (.leaf (1,[(.i y2),(.i y3),(.i y4),(.r y5),(.i y6),(.i y7),(.i y8),(.b y9),(.i y10)]))):=by kernel_rfl
theorem q3w(y0:Int)(y1:Int)(y2:Int)(y3:R)(y4:Int)(y5:Int)(y6:Int)(y7:Bool)(y8:Int):vV [.i y0,.i y1,.i y2,.r y3,.i y4,.i y5,.i y6,.b y7,.i y8]=(.br (ilt y1 y0) (let r0:TR:=(qf vB [(.i y1),(.i (qt .i64 y1 1)),(.i y0),(.i y1),(.i y2),(.r y3),(.i y4),(.i y5),(.i y6),(.b y7),(.i y8)])
 .br (okR r0) (.br (jIs r0 0) (.leaf (0,[(.i (gI r0 0)),(.i (qt .i64 (gI r0 1) 1)),(.i (gI r0 2)),(.r (gR r0 3)),(.i (gI r0 4)),(.i (gI r0 5)),(.i (gI r0 6)),(.b (gB r0 7)),(.i (gI r0 8))])) (.leaf (2,[(.i (gI r0 0)),(.r (gR r0 1)),(.i (gI r0 2)),(.i (gI r0 3)),(.i (gI r0 4)),(.b (gB r0 5)),(.i (gI r0 6))]))) .fail) (.leaf (1,[(.i y2),(.r y3),(.i y4),(.i y5),(.i y6),(.b y7),(.i y8)]))):=by kernel_rfl
theorem qgj(x0:R)(x1:Int):qK [.r x0,.i x1]=(let r0:TR:=(qf vX [(.i (qL x0)),(.i 0),(.i x1),(.r x0),(.i 0),(.i 0),(.i 0),(.b false),(.i (qL x0))])
 .br (okR r0) (.br (jIs r0 0) (let r1:TR:=(qf vV [(.i (gI r0 6)),(.i 0),(.i (gI r0 0)),(.r (gR r0 1)),(.i (gI r0 2)),(.i (gI r0 3)),(.i (gI r0 4)),(.b (gB r0 5)),(.i (gI r0 6))])
 .br (okR r1) (.br (jIs r1 0) (.leaf (0,[(.i 0),(.i 0),(.i 0),(.b false),(.i (gI r1 0))])) (.leaf (0,[(.i (gI r1 2)),(.i (gI r1 3)),(.i (gI r1 4)),(.b (gB r1 5)),(.i (gI r1 0))]))) .fail) (.leaf (0,[(.i (gI r0 2)),(.i (gI r0 3)),(.i (gI r0 4)),(.b (gB r0 5)),(.i (gI r0 0))]))) .fail):=by kernel_rfl
theorem q0U(y0:Int)(y1:Int)(y2:Int)(y3:Int)(y4:Int)(y5:Int)(y6:Int)(y7:R)(y8:Int)(y9:Int)(y10:Int)(y11:R)(y12:Int)(y13:R)(y14:R):zL [.i y0,.i y1,.i y2,.i y3,.i y4,.i y5,.i y6,.r y7,.i y8,.i y9,.i y10,.r y11,.i y12,.r y13,.r y14]=(.br (ilt y1 y0) (.br (inb y1 (qL y13)) (.br (inb (cI y13 y1 0) (qL y11)) (.br (ile ((qL y14)+(qL [[(.s (cS y11 (cI y13 y1 0) 0)),(.s (cS y11 (cI y13 y1 0) 1)),(.s (cS y11 (cI y13 y1 0) 2))]])) 2932031007402) (.leaf (0,[(.i y0),(.i (qt .i64 y1 1)),(.i y2),(.i y3),(.i y4),(.i y5),(.i y6),(.r y7),(.i y8),(.i y9),(.i y10),(.r y11),(.i y12),(.r y13),(.r (q9P y14 [[(.s (cS y11 (cI y13 y1 0) 0)),(.s (cS y11 (cI y13 y1 0) 1)),(.s (cS y11 (cI y13 y1 0) 2))]]))])) .fail) .fail) .fail) (.leaf (1,[(.i y2),(.i y3),(.i y4),(.i y5),(.i y6),(.r y7),(.i y8),(.i y9),(.i y10),(.r y11),(.i y12),(.r y13),(.r y14)]))):=by kernel_rfl
theorem q3r(y0:Int)(y1:Int)(y2:Int)(y3:Int)(y4:R)(y5:Int):z6 [.i y0,.i y1,.i y2,.i y3,.r y4,.i y5]=(.br (ilt y1 (qL y4)) (let r0:TR:=(qf zL [(.i (qL [[(.i y0)],[(.i y1)]])),(.i 0),(.i y0),(.i y1),(.i y2),(.i y3),(.i y1),(.r y4),(.i (qL y4)),(.i y0),(.i y1),(.r y4),(.i y5),(.r [[(.i y0)],[(.i y1)]]),(.r [])])
 .br (okR r0) (let r1:TR:=(qK [(.r (gR r0 12)),(.i (gI r0 10))])
 .br (okR r1) (.br (not (gB r1 3)) (.br (ieq (gI r1 4) 0) (.leaf (2,[(.i 0),(.r [[(.i (gI r0 0))],[(.i (gI r0 1))]])])) (.leaf (0,[(.i (gI r0 0)),(.i (qt .i64 (gI r0 1) 1)),(.i (gI r0 2)),(.i (gI r0 3)),(.r (gR r0 9)),(.i (gI r1 4))]))) (.leaf (0,[(.i (gI r0 0)),(.i (qt .i64 (gI r0 1) 1)),(.i (gI r0 2)),(.i (gI r0 3)),(.r (gR r0 9)),(.i (gI r1 4))]))) .fail) .fail) (.leaf (1,[(.i y2),(.i y3),(.r y4),(.i y5)]))):=by kernel_rfl
theorem q4m(y0:Int)(y1:Int)(y2:R)(y3:Int):qo [.i y0,.i y1,.r y2,.i y3]=(.br (ilt y1 y0) (.br (okR (qf z6 [(.i y1),(.i (qt .i64 y1 1)),(.i y0),(.i y1),(.r y2),(.i y3)])) (.br (jIs (qf z6 [(.i y1),(.i (qt .i64 y1 1)),(.i y0),(.i y1),(.r y2),(.i y3)]) 0) (.leaf (0,[(.i (gI (qf z6 [(.i y1),(.i (qt .i64 y1 1)),(.i y0),(.i y1),(.r y2),(.i y3)]) 0)),(.i (qt .i64 (gI (qf z6 [(.i y1),(.i (qt .i64 y1 1)),(.i y0),(.i y1),(.r y2),(.i y3)]) 1) 1)),(.r (gR (qf z6 [(.i y1),(.i (qt .i64 y1 1)),(.i y0),(.i y1),(.r y2),(.i y3)]) 2)),(.i (gI (qf z6 [(.i y1),(.i (qt .i64 y1 1)),(.i y0),(.i y1),(.r y2),(.i y3)]) 3))])) (.leaf (2,[(.i (gI (qf z6 [(.i y1),(.i (qt .i64 y1 1)),(.i y0),(.i y1),(.r y2),(.i y3)]) 0)),(.r (gR (qf z6 [(.i y1),(.i (qt .i64 y1 1)),(.i y0),(.i y1),(.r y2),(.i y3)]) 1))]))) .fail) (.leaf (1,[(.r y2),(.i y3)]))):=by kernel_rfl
theorem q0T(y0:Int)(y1:Int)(y2:Int)(y3:Int)(y4:Int)(y5:Int)(y6:Int)(y7:Int)(y8:R)(y9:Int)(y10:Int)(y11:Int)(y12:Int)(y13:R)(y14:Int)(y15:R)(y16:R):zO [.i y0,.i y1,.i y2,.i y3,.i y4,.i y5,.i y6,.i y7,.r y8,.i y9,.i y10,.i y11,.i y12,.r y13,.i y14,.r y15,.r y16]=(.br (ilt y1 y0) (.br (inb y1 (qL y15)) (.br (inb (cI y15 y1 0) (qL y13)) (.br (ile ((qL y16)+(qL [[(.s (cS y13 (cI y15 y1 0) 0)),(.s (cS y13 (cI y15 y1 0) 1)),(.s (cS y13 (cI y15 y1 0) 2))]])) 2932031007402) (.leaf (0,[(.i y0),(.i (qt .i64 y1 1)),(.i y2),(.i y3),(.i y4),(.i y5),(.i y6),(.i y7),(.r y8),(.i y9),(.i y10),(.i y11),(.i y12),(.r y13),(.i y14),(.r y15),(.r (q9P y16 [[(.s (cS y13 (cI y15 y1 0) 0)),(.s (cS y13 (cI y15 y1 0) 1)),(.s (cS y13 (cI y15 y1 0) 2))]]))])) .fail) .fail) .fail) (.leaf (1,[(.i y2),(.i y3),(.i y4),(.i y5),(.i y6),(.i y7),(.r y8),(.i y9),(.i y10),(.i y11),(.i y12),(.r y13),(.i y14),(.r y15),(.r y16)]))):=by kernel_rfl
theorem q3s(y0:Int)(y1:Int)(y2:Int)(y3:Int)(y4:Int)(y5:R)(y6:Int):qO [.i y0,.i y1,.i y2,.i y3,.i y4,.r y5,.i y6]=(.br (ilt y2 (qL y5)) (let r0:TR:=(qf zO [(.i (qL [[(.i y0)],[(.i y1)],[(.i y2)]])),(.i 0),(.i y0),(.i y1),(.i y2),(.i y3),(.i y4),(.i y2),(.r y5),(.i (qL y5)),(.i y0),(.i y1),(.i y2),(.r y5),(.i y6),(.r [[(.i y0)],[(.i y1)],[(.i y2)]]),(.r [])])
 .br (okR r0) (let r1:TR:=(qK [(.r (gR r0 14)),(.i (gI r0 12))])
 .br (okR r1) (.br (not (gB r1 3)) (.br (ieq (gI r1 4) 0) (.leaf (2,[(.i 0),(.r [[(.i (gI r0 0))],[(.i (gI r0 1))],[(.i (gI r0 2))]])])) (.leaf (0,[(.i (gI r0 0)),(.i (gI r0 1)),(.i (qt .i64 (gI r0 2) 1)),(.i (gI r0 3)),(.i (gI r0 4)),(.r (gR r0 11)),(.i (gI r1 4))]))) (.leaf (0,[(.i (gI r0 0)),(.i (gI r0 1)),(.i (qt .i64 (gI r0 2) 1)),(.i (gI r0 3)),(.i (gI r0 4)),(.r (gR r0 11)),(.i (gI r1 4))]))) .fail) .fail) (.leaf (1,[(.i y0),(.i y1),(.i y3),(.i y4),(.r y5),(.i y6)]))):=by kernel_rfl
theorem q3t(y0:Int)(y1:Int)(y2:Int)(y3:Int)(y4:R)(y5:Int):qZ [.i y0,.i y1,.i y2,.i y3,.r y4,.i y5]=(.br (ilt y1 (qL y4)) (.br (okR (qf qO [(.i y0),(.i y1),(.i (qt .i64 y1 1)),(.i y2),(.i y3),(.r y4),(.i y5)])) (.br (jIs (qf qO [(.i y0),(.i y1),(.i (qt .i64 y1 1)),(.i y2),(.i y3),(.r y4),(.i y5)]) 0) (.leaf (0,[(.i (gI (qf qO [(.i y0),(.i y1),(.i (qt .i64 y1 1)),(.i y2),(.i y3),(.r y4),(.i y5)]) 0)),(.i (qt .i64 (gI (qf qO [(.i y0),(.i y1),(.i (qt .i64 y1 1)),(.i y2),(.i y3),(.r y4),(.i y5)]) 1) 1)),(.i (gI (qf qO [(.i y0),(.i y1),(.i (qt .i64 y1 1)),(.i y2),(.i y3),(.r y4),(.i y5)]) 2)),(.i (gI (qf qO [(.i y0),(.i y1),(.i (qt .i64 y1 1)),(.i y2),(.i y3),(.r y4),(.i y5)]) 3)),(.r (gR (qf qO [(.i y0),(.i y1),(.i (qt .i64 y1 1)),(.i y2),(.i y3),(.r y4),(.i y5)]) 4)),(.i (gI (qf qO [(.i y0),(.i y1),(.i (qt .i64 y1 1)),(.i y2),(.i y3),(.r y4),(.i y5)]) 5))])) (.leaf (2,[(.i (gI (qf qO [(.i y0),(.i y1),(.i (qt .i64 y1 1)),(.i y2),(.i y3),(.r y4),(.i y5)]) 0)),(.r (gR (qf qO [(.i y0),(.i y1),(.i (qt .i64 y1 1)),(.i y2),(.i y3),(.r y4),(.i y5)]) 1))]))) .fail) (.leaf (1,[(.i y2),(.i y3),(.r y4),(.i y5)]))):=by kernel_rfl
theorem q3m(y0:Int)(y1:Int)(y2:R)(y3:Int):zr [.i y0,.i y1,.r y2,.i y3]=(.br (ilt y1 y0) (.br (okR (qf qZ [(.i y1),(.i (qt .i64 y1 1)),(.i y0),(.i y1),(.r y2),(.i y3)])) (.br (jIs (qf qZ [(.i y1),(.i (qt .i64 y1 1)),(.i y0),(.i y1),(.r y2),(.i y3)]) 0) (.leaf (0,[(.i (gI (qf qZ [(.i y1),(.i (qt .i64 y1 1)),(.i y0),(.i y1),(.r y2),(.i y3)]) 0)),(.i (qt .i64 (gI (qf qZ [(.i y1),(.i (qt .i64 y1 1)),(.i y0),(.i y1),(.r y2),(.i y3)]) 1) 1)),(.r (gR (qf qZ [(.i y1),(.i (qt .i64 y1 1)),(.i y0),(.i y1),(.r y2),(.i y3)]) 2)),(.i (gI (qf qZ [(.i y1),(.i (qt .i64 y1 1)),(.i y0),(.i y1),(.r y2),(.i y3)]) 3))])) (.leaf (2,[(.i (gI (qf qZ [(.i y1),(.i (qt .i64 y1 1)),(.i y0),(.i y1),(.r y2),(.i y3)]) 0)),(.r (gR (qf qZ [(.i y1),(.i (qt .i64 y1 1)),(.i y0),(.i y1),(.r y2),(.i y3)]) 1))]))) .fail) (.leaf (1,[(.i y3)]))):=by kernel_rfl
theorem qdC(x0:R):wY [.r x0]=(.br (okR (zi [(.r x0)])) (.br (ine (gI (zi [(.r x0)]) 0) 0) (.leaf (0,[(.r []),(.i (gI (zi [(.r x0)]) 0))])) (.br (okR (qf qo [(.i (qL x0)),(.i 0),(.r x0),(.i 0)])) (.br (jIs (qf qo [(.i (qL x0)),(.i 0),(.r x0),(.i 0)]) 0) (.br (okR (qf zr [(.i (qL (gR (qf qo [(.i (qL x0)),(.i 0),(.r x0),(.i 0)]) 0))),(.i 0),(.r (gR (qf qo [(.i (qL x0)),(.i 0),(.r x0),(.i 0)]) 0)),(.i (gI (qf qo [(.i (qL x0)),(.i 0),(.r x0),(.i 0)]) 1))])) (.br (jIs (qf zr [(.i (qL (gR (qf qo [(.i (qL x0)),(.i 0),(.r x0),(.i 0)]) 0))),(.i 0),(.r (gR (qf qo [(.i (qL x0)),(.i 0),(.r x0),(.i 0)]) 0)),(.i (gI (qf qo [(.i (qL x0)),(.i 0),(.r x0),(.i 0)]) 1))]) 0) (.leaf (0,[(.r []),(.i (gI (qf zr [(.i (qL (gR (qf qo [(.i (qL x0)),(.i 0),(.r x0),(.i 0)]) 0))),(.i 0),(.r (gR (qf qo [(.i (qL x0)),(.i 0),(.r x0),(.i 0)]) 0)),(.i (gI (qf qo [(.i (qL x0)),(.i 0),(.r x0),(.i 0)]) 1))]) 0))])) (.leaf (0,[(.r (gR (qf zr [(.i (qL (gR (qf qo [(.i (qL x0)),(.i 0),(.r x0),(.i 0)]) 0))),(.i 0),(.r (gR (qf qo [(.i (qL x0)),(.i 0),(.r x0),(.i 0)]) 0)),(.i (gI (qf qo [(.i (qL x0)),(.i 0),(.r x0),(.i 0)]) 1))]) 1)),(.i (gI (qf zr [(.i (qL (gR (qf qo [(.i (qL x0)),(.i 0),(.r x0),(.i 0)]) 0))),(.i 0),(.r (gR (qf qo [(.i (qL x0)),(.i 0),(.r x0),(.i 0)]) 0)),(.i (gI (qf qo [(.i (qL x0)),(.i 0),(.r x0),(.i 0)]) 1))]) 0))]))) .fail) (.leaf (0,[(.r (gR (qf qo [(.i (qL x0)),(.i 0),(.r x0),(.i 0)]) 1)),(.i (gI (qf qo [(.i (qL x0)),(.i 0),(.r x0),(.i 0)]) 0))]))) .fail)) .fail):=by kernel_rfl
theorem qlo(x0:R):v6 [.r x0]=(.br (okR (zi [(.r x0)])) (.br (ine (gI (zi [(.r x0)]) 0) 0) (.leaf (0,[(.b false),(.i 0),(.i 0),(.i 0),(.i (gI (zi [(.r x0)]) 0))])) (.br (okR (qK [(.r x0),(.i 0)])) (.br (ine (gI (qK [(.r x0),(.i 0)]) 4) 0) (.leaf (0,[(.b false),(.i 0),(.i 0),(.i 0),(.i (gI (qK [(.r x0),(.i 0)]) 4))])) (.leaf (0,[(.b (gB (qK [(.r x0),(.i 0)]) 3)),(.i (gI (qK [(.r x0),(.i 0)]) 0)),(.i (gI (qK [(.r x0),(.i 0)]) 1)),(.i (gI (qK [(.r x0),(.i 0)]) 2)),(.i 0)]))) .fail)) .fail):=by kernel_rfl
theorem qhO(x0:List UInt8)(x1:List UInt8)(x2:List UInt8):zT [.s x0,.s x1,.s x2]=(.leaf (0,[(.s x0),(.s x1),(.s x2)])):=by kernel_rfl
theorem q3p(y0:R)(y1:R)(y2:Int)(y3:Int):wC [.r y0,.r y1,.i y2,.i y3]=(.br (ilt y3 y2) (.br (inb y3 (qL y0)) (.br (inb y3 (qL y1)) (.br (ine (cI y0 y3 0) (cI y1 y3 0)) (.leaf (2,[(.b false)])) (.leaf (0,[(.r y0),(.r y1),(.i y2),(.i (qt .i64 y3 1))]))) .fail) .fail) (.leaf (1,[]))):=by kernel_rfl
theorem qck(x0:R)(x1:R):vl [.r x0,.r x1]=(.br (ine (qL x0) (qL x1)) (.leaf (0,[(.b false)])) (.br (okR (qf wC [(.r x0),(.r x1),(.i (qL x0)),(.i 0)])) (.br (jIs (qf wC [(.r x0),(.r x1),(.i (qL x0)),(.i 0)]) 0) (.leaf (0,[(.b true)])) (.leaf (0,[(.b (gB (qf wC [(.r x0),(.r x1),(.i (qL x0)),(.i 0)]) 0))]))) .fail)):=by kernel_rfl
theorem qgL(x0:List UInt8)(x1:List UInt8)(x2:Int):zq [.s x0,.s x1,.i x2]=(.br (okR (qz [(.s x0),(.s x1),(.i x2)])) (.br (okR (wA [(.s (gS (qz [(.s x0),(.s x1),(.i x2)]) 0)),(.s [48]),(.s [48]),(.i (gI (qz [(.s x0),(.s x1),(.i x2)]) 1))])) (.leaf (0,[(.i (gI (wA [(.s (gS (qz [(.s x0),(.s x1),(.i x2)]) 0)),(.s [48]),(.s [48]),(.i (gI (qz [(.s x0),(.s x1),(.i x2)]) 1))]) 0)),(.i (gI (wA [(.s (gS (qz [(.s x0),(.s x1),(.i x2)]) 0)),(.s [48]),(.s [48]),(.i (gI (qz [(.s x0),(.s x1),(.i x2)]) 1))]) 1))])) .fail) .fail):=by kernel_rfl
theorem qjv(x0:List UInt8)(x1:List UInt8)(x2:List UInt8)(x3:List UInt8)(x4:Int):jm [.s x0,.s x1,.s x2,.s x3,.i x4]=(.br (okR (qH [(.s x0),(.s x1),(.s x2),(.s x3),(.i x4)])) (.br (okR (zM [(.s (gS (qH [(.s x0),(.s x1),(.s x2),(.s x3),(.i x4)]) 0)),(.s (gS (qH [(.s x0),(.s x1),(.s x2),(.s x3),(.i x4)]) 1)),(.s (gS (qH [(.s x0),(.s x1),(.s x2),(.s x3),(.i x4)]) 0)),(.s (gS (qH [(.s x0),(.s x1),(.s x2),(.s x3),(.i x4)]) 1)),(.i (gI (qH [(.s x0),(.s x1),(.s x2),(.s x3),(.i x4)]) 2))])) (.leaf (0,[(.s (gS (zM [(.s (gS (qH [(.s x0),(.s x1),(.s x2),(.s x3),(.i x4)]) 0)),(.s (gS (qH [(.s x0),(.s x1),(.s x2),(.s x3),(.i x4)]) 1)),(.s (gS (qH [(.s x0),(.s x1),(.s x2),(.s x3),(.i x4)]) 0)),(.s (gS (qH [(.s x0),(.s x1),(.s x2),(.s x3),(.i x4)]) 1)),(.i (gI (qH [(.s x0),(.s x1),(.s x2),(.s x3),(.i x4)]) 2))]) 0)),(.i (gI (zM [(.s (gS (qH [(.s x0),(.s x1),(.s x2),(.s x3),(.i x4)]) 0)),(.s (gS (qH [(.s x0),(.s x1),(.s x2),(.s x3),(.i x4)]) 1)),(.s (gS (qH [(.s x0),(.s x1),(.s x2),(.s x3),(.i x4)]) 0)),(.s (gS (qH [(.s x0),(.s x1),(.s x2),(.s x3),(.i x4)]) 1)),(.i (gI (qH [(.s x0),(.s x1),(.s x2),(.s x3),(.i x4)]) 2))]) 1))])) .fail) .fail):=by kernel_rfl
theorem qhE(x0:List UInt8)(x1:List UInt8)(x2:List UInt8)(x3:List UInt8)(x4:List UInt8)(x5:List UInt8)(x6:List UInt8)(x7:Int):wM [.s x0,.s x1,.s x2,.s x3,.s x4,.s x5,.s x6,.i x7]=(let r0:TR:=(jm [(.s x0),(.s x1),(.s x3),(.s x4),(.i x7)])
 .br (okR r0) (let r1:TR:=(zu [(.s x2),(.s x5),(.i (gI r0 1))])
 .br (okR r1) (let r2:TR:=(qz [(.s (gS r0 0)),(.s (gS r1 0)),(.i (gI r1 1))])
 .br (okR r2) (let r3:TR:=(qu [(.s x2),(.s x5),(.i (gI r2 1))])
 .br (okR r3) (let r4:TR:=(wA [(.s (gS r2 0)),(.s x6),(.s (gS r3 0)),(.i (gI r3 1))])
 .br (okR r4) (.leaf (0,[(.i (gI r4 0)),(.i (gI r4 1))])) .fail) .fail) .fail) .fail) .fail):=by kernel_rfl
theorem qfr(x0:List UInt8)(x1:List UInt8)(x2:List UInt8)(x3:List UInt8)(x4:List UInt8)(x5:List UInt8)(x6:Int):qE [.s x0,.s x1,.s x2,.s x3,.s x4,.s x5,.i x6]=(.br (okR (zq [(.s x2),(.s x5),(.i x6)])) (.br (ile (gI (zq [(.s x2),(.s x5),(.i x6)]) 0) 0) (.br (okR (wM [(.s x0),(.s x1),(.s x2),(.s x3),(.s x4),(.s x5),(.s [50]),(.i (gI (zq [(.s x2),(.s x5),(.i x6)]) 1))])) (.leaf (0,[(.b (ile (gI (wM [(.s x0),(.s x1),(.s x2),(.s x3),(.s x4),(.s x5),(.s [50]),(.i (gI (zq [(.s x2),(.s x5),(.i x6)]) 1))]) 0) 0)),(.i (gI (wM [(.s x0),(.s x1),(.s x2),(.s x3),(.s x4),(.s x5),(.s [50]),(.i (gI (zq [(.s x2),(.s x5),(.i x6)]) 1))]) 1))])) .fail) (.leaf (0,[(.b false),(.i (gI (zq [(.s x2),(.s x5),(.i x6)]) 1))]))) .fail):=by kernel_rfl
theorem qbM(y0:Int)(y1:Int)(y2:List UInt8)(y3:List UInt8)(y4:List UInt8)(y5:List UInt8)(y6:List UInt8)(y7:List UInt8)(y8:R):q1p [.i y0,.i y1,.s y2,.s y3,.s y4,.s y5,.s y6,.s y7,.r y8]=(.br (ilt y1 y0) (.br (inb y1 (qL y8)) (.br (okR (wt [(.s (cS y8 y1 0)),(.s (cS y8 y1 1)),(.s (cS y8 y1 2))])) (.br (ine (gI (wt [(.s (cS y8 y1 0)),(.s (cS y8 y1 1)),(.s (cS y8 y1 2))]) 0) 0) (.leaf (2,[(.i 0),(.i (gI (wt [(.s (cS y8 y1 0)),(.s (cS y8 y1 1)),(.s (cS y8 y1 2))]) 0))])) (.leaf (0,[(.i y0),(.i (qt .i64 y1 1)),(.s y2),(.s y3),(.s y4),(.s y5),(.s y6),(.s y7),(.r y8)]))) .fail) .fail) (.leaf (1,[(.s y2),(.s y3),(.s y4),(.s y5),(.s y6),(.s y7)]))):=by kernel_rfl
theorem qm3(x0:List UInt8)(x1:List UInt8)(x2:List UInt8)(x3:List UInt8)(x4:List UInt8)(x5:List UInt8):q3B [.s x0,.s x1,.s x2,.s x3,.s x4,.s x5]=(let r0:TR:=(qf q1p [(.i (qL [[(.s x0),(.s x1),(.s x2)],[(.s x3),(.s x4),(.s x5)]])),(.i 0),(.s x0),(.s x1),(.s x2),(.s x3),(.s x4),(.s x5),(.r [[(.s x0),(.s x1),(.s x2)],[(.s x3),(.s x4),(.s x5)]])])
 .br (okR r0) (.br (jIs r0 0) (let r1:TR:=(qE [(.s (gS r0 0)),(.s (gS r0 1)),(.s (gS r0 2)),(.s (gS r0 3)),(.s (gS r0 4)),(.s (gS r0 5)),(.i 0)])
 .br (okR r1) (.br (gB r1 0) (.br (ine (gI r1 1) 0) (.leaf (0,[(.i 0),(.i (gI r1 1))])) (.leaf (0,[(.i 2),(.i 0)]))) (let r2:TR:=(qE [(.s (gS r0 3)),(.s (gS r0 4)),(.s (gS r0 5)),(.s (gS r0 0)),(.s (gS r0 1)),(.s (gS r0 2)),(.i (gI r1 1))])
 .br (okR r2) (.br (gB r2 0) (.br (ine (gI r2 1) 0) (.leaf (0,[(.i 0),(.i (gI r2 1))])) (.leaf (0,[(.i 3),(.i 0)]))) (let r3:TR:=(wM [(.s (gS r0 0)),(.s (gS r0 1)),(.s (gS r0 2)),(.s (gS r0 3)),(.s (gS r0 4)),(.s (gS r0 5)),(.s [45,50]),(.i (gI r2 1))])
 .br (okR r3) (.br (ine (gI r3 1) 0) (.leaf (0,[(.i 0),(.i (gI r3 1))])) (.leaf (0,[(.i (z8 .i64 0 (gI r3 0))),(.i 0)]))) .fail)) .fail)) .fail) (.leaf (0,[(.i (gI r0 0)),(.i (gI r0 1))]))) .fail):=by kernel_rfl
theorem qn1  : zA []=(let r0:TR:=(zT [(.s [48]),(.s [48]),(.s [52])])
 .br (okR r0) (let r1:TR:=(zT [(.s [52]),(.s [48]),(.s [52])])
 .br (okR r1) (let r2:TR:=(v6 [(.r [[(.s (gS r0 0)),(.s (gS r0 1)),(.s (gS r0 2))],[(.s (gS r1 0)),(.s (gS r1 1)),(.s (gS r1 2))]])])
 .br (okR r2) (let r3:TR:=(zT [(.s [48]),(.s [48]),(.s [53])])
 .br (okR r3) (let r4:TR:=(zT [(.s [52]),(.s [48]),(.s [53])])
 .br (okR r4) (let r5:TR:=(v6 [(.r [[(.s (gS r3 0)),(.s (gS r3 1)),(.s (gS r3 2))],[(.s (gS r4 0)),(.s (gS r4 1)),(.s (gS r4 2))]])])
 .br (okR r5) (let r6:TR:=(zT [(.s [48]),(.s [48]),(.s [49])])
 .br (okR r6) (let r7:TR:=(zT [(.s [52]),(.s [48]),(.s [49])])
 .br (okR r7) (let r8:TR:=(wY [(.r [[(.s (gS r6 0)),(.s (gS r6 1)),(.s (gS r6 2))],[(.s (gS r7 0)),(.s (gS r7 1)),(.s (gS r7 2))]])])
 .br (okR r8) (.br (okR r6) (let r9:TR:=(zT [(.s [50]),(.s [48]),(.s [49])])
 .br (okR r9) (let r10:TR:=(zT [(.s [49]),(.s [53,47,51]),(.s [49])])
 .br (okR r10) (let r11:TR:=(wY [(.r [[(.s (gS r6 0)),(.s (gS r6 1)),(.s (gS r6 2))],[(.s (gS r9 0)),(.s (gS r9 1)),(.s (gS r9 2))],[(.s (gS r10 0)),(.s (gS r10 1)),(.s (gS r10 2))]])])
 .br (okR r11) (.br (okR r6) (let r12:TR:=(zT [(.s [49]),(.s [48]),(.s [52])])
 .br (okR r12) (let r13:TR:=(q3B [(.s (gS r6 0)),(.s (gS r6 1)),(.s (gS r6 2)),(.s (gS r12 0)),(.s (gS r12 1)),(.s (gS r12 2))])
 .br (okR r13) (.br (ieq (qt .i64 (qt .i64 (qt .i64 (qt .i64 (gI r2 4) (gI r5 4)) (gI r8 1)) (gI r11 1)) (gI r13 1)) 0) (.br (gB r2 0) (.br (quW (ieq (gI r2 1) 0) (quW (ieq (gI r2 2) 1) (quW (ieq (gI r2 3) 0) true))) (.br (gB r5 0) (.br (quW (ieq (gI r5 1) 0) (quW (ieq (gI r5 2) 1) (quW (ieq (gI r5 3) 1) true))) (let r14:TR:=(vl [(.r (gR r8 0)),(.r [[(.i 0)],[(.i 1)]])])
 .br (okR r14) (.br (gB r14 0) (let r15:TR:=(vl [(.r (gR r11 0)),(.r [[(.i 0)],[(.i 1)],[(.i 2)]])])
 .br (okR r15) (.br (gB r15 0) (.leaf (0,[(.b (ieq (gI r13 0) 2))])) (.leaf (0,[(.b false)]))) .fail) (.leaf (0,[(.b false)]))) .fail) (.leaf (0,[(.b false)]))) (.leaf (0,[(.b false)]))) (.leaf (0,[(.b false)]))) (.leaf (0,[(.b false)]))) (.leaf (0,[(.b false)]))) .fail) .fail) .fail) .fail) .fail) .fail) .fail) .fail) .fail) .fail) .fail) .fail) .fail) .fail) .fail) .fail):=by kernel_rfl
theorem qkr(y0:List UInt8)(y1:Int):ud [.s y0,.i y1]=(.br (ilt y1 (qw y0)) (.br (inb y1 (qw y0)) (.br (ieq (sat y0 y1) 47) (.leaf (2,[(.i y1)])) (.leaf (0,[(.s y0),(.i (qt .i64 y1 1))]))) .fail) (.leaf (1,[]))):=by kernel_rfl
theorem qnu(x0:List UInt8):wT [.s x0]=(.br (okR (qf ud [(.s x0),(.i 0)])) (.br (jIs (qf ud [(.s x0),(.i 0)]) 0) (.leaf (0,[(.i (-1))])) (.leaf (0,[(.i (gI (qf ud [(.s x0),(.i 0)]) 0))]))) .fail):=by kernel_rfl
theorem qnj(x0:List UInt8):qp [.s x0]=(.br (okR (wT [(.s x0)])) (.br (ilt (gI (wT [(.s x0)]) 0) 0) (.leaf (0,[(.s x0),(.s [49])])) (.br (q6E (gI (wT [(.s x0)]) 0) (qw x0)) (.br (q6E 0 (gI (wT [(.s x0)]) 0)) (.br (q6E (qw x0) (qw x0)) (.br (q6E (qt .i64 (gI (wT [(.s x0)]) 0) 1) (qw x0)) (.leaf (0,[(.s (q5W x0 0 (gI (wT [(.s x0)]) 0))),(.s (q5W x0 (qt .i64 (gI (wT [(.s x0)]) 0) 1) (qw x0)))])) .fail) .fail) .fail) .fail)) .fail):=by kernel_rfl
theorem qiV(x0:List UInt8):qg [.s x0]=(.br (not (seq x0 [])) (.br (inb 0 (qw x0)) (.br (ieq (sat x0 0) 45) (.br (q6E (qw x0) (qw x0)) (.br (q6E 1 (qw x0)) (.leaf (0,[(.s (q5W x0 1 (qw x0)))])) .fail) .fail) (.leaf (0,[(.s x0)]))) .fail) (.leaf (0,[(.s x0)]))):=by kernel_rfl
theorem qkK(y0:List UInt8)(y1:Int):wJ [.s y0,.i y1]=(.br (ilt y1 (qw y0)) (.br (inb y1 (qw y0)) (.br (ilt (sat y0 y1) 48) (.leaf (2,[(.i 3)])) (.br (inb y1 (qw y0)) (.br (ilt 57 (sat y0 y1)) (.leaf (2,[(.i 3)])) (.leaf (0,[(.s y0),(.i (qt .i64 y1 1))]))) .fail)) .fail) (.leaf (1,[(.s y0)]))):=by kernel_rfl
theorem qnJ(x0:List UInt8):vJ [.s x0]=(.br (okR (qg [(.s x0)])) (.br (seq (gS (qg [(.s x0)]) 0) []) (.leaf (0,[(.i 3)])) (.br (inb 0 (qw (gS (qg [(.s x0)]) 0))) (.br (ieq (sat (gS (qg [(.s x0)]) 0) 0) 48) (.br (ilt 1 (qw (gS (qg [(.s x0)]) 0))) (.leaf (0,[(.i 3)])) (.br (ilt 1 (qw x0)) (.leaf (0,[(.i 3)])) (.br (okR (qf wJ [(.s (gS (qg [(.s x0)]) 0)),(.i 0)])) (.br (jIs (qf wJ [(.s (gS (qg [(.s x0)]) 0)),(.i 0)]) 0) (.br (ilt 1024 (qw (gS (qf wJ [(.s (gS (qg [(.s x0)]) 0)),(.i 0)]) 0))) (.leaf (0,[(.i 11)])) (.leaf (0,[(.i 0)]))) (.leaf (0,[(.i (gI (qf wJ [(.s (gS (qg [(.s x0)]) 0)),(.i 0)]) 0))]))) .fail))) (.br (okR (qf wJ [(.s (gS (qg [(.s x0)]) 0)),(.i 0)])) (.br (jIs (qf wJ [(.s (gS (qg [(.s x0)]) 0)),(.i 0)]) 0) (.br (ilt 1024 (qw (gS (qf wJ [(.s (gS (qg [(.s x0)]) 0)),(.i 0)]) 0))) (.leaf (0,[(.i 11)])) (.leaf (0,[(.i 0)]))) (.leaf (0,[(.i (gI (qf wJ [(.s (gS (qg [(.s x0)]) 0)),(.i 0)]) 0))]))) .fail)) .fail)) .fail):=by kernel_rfl
theorem qnr(x0:List UInt8):qm [.s x0]=(.br (inb 0 (qw x0)) (.leaf (0,[(.b (ieq (sat x0 0) 45))])) .fail):=by kernel_rfl
theorem qm2(x0:List UInt8)(x1:Bool):qD [.s x0,.b x1]=(.br x1 (.br (not (seq x0 [48])) (.br (ile ((qw [45])+(qw x0)) 140737488355328) (.leaf (0,[(.s (q6K [45] x0))])) .fail) (.leaf (0,[(.s x0)]))) (.leaf (0,[(.s x0)]))):=by kernel_rfl
theorem qms(x0:List UInt8):qU [.s x0]=(.br (okR (qg [(.s x0)])) (.br (okR (qm [(.s x0)])) (.br (okR (qD [(.s (gS (qg [(.s x0)]) 0)),(.b (not (gB (qm [(.s x0)]) 0)))])) (.leaf (0,[(.s (gS (qD [(.s (gS (qg [(.s x0)]) 0)),(.b (not (gB (qm [(.s x0)]) 0)))]) 0))])) .fail) .fail) .fail):=by kernel_rfl
theorem qnf(y0:Int)(y1:List UInt8):v7 [.i y0,.s y1]=(.br (ilt 9 y0) (.br (ile ((qw (qdU [[(.i (j4 .u8 (qt .i64 48 (q5s y0 10))))]]))+(qw y1)) 140737488355328) (.leaf (0,[(.i (yH .i64 y0 10)),(.s (q6K (qdU [[(.i (j4 .u8 (qt .i64 48 (q5s y0 10))))]]) y1))])) .fail) (.leaf (1,[(.i y0),(.s y1)]))):=by kernel_rfl
theorem qqr(x0:Int):ul [.i x0]=(.br (ieq x0 (z8 .i64 0 x0)) (.br (ine x0 0) (.leaf (0,[(.s [45,57,50,50,51,51,55,50,48,51,54,56,53,52,55,55,53,56,48,56])])) (.br (ilt x0 0) .fail (.br (okR (qf v7 [(.i x0),(.s [])])) (.br (ile ((qw (qdU [[(.i (j4 .u8 (qt .i64 48 (gI (qf v7 [(.i x0),(.s [])]) 0))))]]))+(qw (gS (qf v7 [(.i x0),(.s [])]) 1))) 140737488355328) (.leaf (0,[(.s (q6K (qdU [[(.i (j4 .u8 (qt .i64 48 (gI (qf v7 [(.i x0),(.s [])]) 0))))]]) (gS (qf v7 [(.i x0),(.s [])]) 1)))])) .fail) .fail))) (.br (ilt x0 0) .fail (.br (okR (qf v7 [(.i x0),(.s [])])) (.br (ile ((qw (qdU [[(.i (j4 .u8 (qt .i64 48 (gI (qf v7 [(.i x0),(.s [])]) 0))))]]))+(qw (gS (qf v7 [(.i x0),(.s [])]) 1))) 140737488355328) (.leaf (0,[(.s (q6K (qdU [[(.i (j4 .u8 (qt .i64 48 (gI (qf v7 [(.i x0),(.s [])]) 0))))]]) (gS (qf v7 [(.i x0),(.s [])]) 1)))])) .fail) .fail))):=by kernel_rfl
theorem qoV(y0:Int)(y1:List UInt8):vS [.i y0,.s y1]=(.br (ilt 9 y0) (.br (ile ((qw (qdU [[(.i (j4 .u8 (qt .i64 48 (q5s y0 10))))]]))+(qw y1)) 140737488355328) (.leaf (0,[(.i (yH .i64 y0 10)),(.s (q6K (qdU [[(.i (j4 .u8 (qt .i64 48 (q5s y0 10))))]]) y1))])) .fail) (.leaf (1,[(.i y0),(.s y1)]))):=by kernel_rfl
theorem qlE(x0:Int):zP [.i x0]=(.br (ieq x0 (z8 .i64 0 x0)) (.br (ine x0 0) (.leaf (0,[(.s [45,57,50,50,51,51,55,50,48,51,54,56,53,52,55,55,53,56,48,56])])) (.br (ilt x0 0) (.br (okR (ul [(.i (z8 .i64 0 x0))])) (.br (okR (qU [(.s (gS (ul [(.i (z8 .i64 0 x0))]) 0))])) (.leaf (0,[(.s (gS (qU [(.s (gS (ul [(.i (z8 .i64 0 x0))]) 0))]) 0))])) .fail) .fail) (.br (okR (qf vS [(.i x0),(.s [])])) (.br (ile ((qw (qdU [[(.i (j4 .u8 (qt .i64 48 (gI (qf vS [(.i x0),(.s [])]) 0))))]]))+(qw (gS (qf vS [(.i x0),(.s [])]) 1))) 140737488355328) (.leaf (0,[(.s (q6K (qdU [[(.i (j4 .u8 (qt .i64 48 (gI (qf vS [(.i x0),(.s [])]) 0))))]]) (gS (qf vS [(.i x0),(.s [])]) 1)))])) .fail) .fail))) (.br (ilt x0 0) (.br (okR (ul [(.i (z8 .i64 0 x0))])) (.br (okR (qU [(.s (gS (ul [(.i (z8 .i64 0 x0))]) 0))])) (.leaf (0,[(.s (gS (qU [(.s (gS (ul [(.i (z8 .i64 0 x0))]) 0))]) 0))])) .fail) .fail) (.br (okR (qf vS [(.i x0),(.s [])])) (.br (ile ((qw (qdU [[(.i (j4 .u8 (qt .i64 48 (gI (qf vS [(.i x0),(.s [])]) 0))))]]))+(qw (gS (qf vS [(.i x0),(.s [])]) 1))) 140737488355328) (.leaf (0,[(.s (q6K (qdU [[(.i (j4 .u8 (qt .i64 48 (gI (qf vS [(.i x0),(.s [])]) 0))))]]) (gS (qf vS [(.i x0),(.s [])]) 1)))])) .fail) .fail))):=by kernel_rfl
theorem qb5(y0:List UInt8)(y1:Int)(y2:List UInt8)(y3:Int):wZ [.s y0,.i y1,.s y2,.i y3]=(.br (ilt y3 (qw y2)) (.br (inb y3 (qw y2)) (.leaf (0,[(.s y0),(.i (qt .i64 (q0Q .i64 10 y1) (j4 .i64 (z8 .u8 (sat y2 y3) 48)))),(.s y2),(.i (qt .i64 y3 1))])) .fail) (.leaf (1,[(.s y0),(.i y1)]))):=by kernel_rfl
theorem qm6(x0:List UInt8):yN [.s x0]=(.br (okR (qg [(.s x0)])) (.br (okR (qf wZ [(.s x0),(.i 0),(.s (gS (qg [(.s x0)]) 0)),(.i 0)])) (.br (okR (qm [(.s (gS (qf wZ [(.s x0),(.i 0),(.s (gS (qg [(.s x0)]) 0)),(.i 0)]) 0))])) (.br (gB (qm [(.s (gS (qf wZ [(.s x0),(.i 0),(.s (gS (qg [(.s x0)]) 0)),(.i 0)]) 0))]) 0) (.leaf (0,[(.i (z8 .i64 0 (gI (qf wZ [(.s x0),(.i 0),(.s (gS (qg [(.s x0)]) 0)),(.i 0)]) 1)))])) (.leaf (0,[(.i (gI (qf wZ [(.s x0),(.i 0),(.s (gS (qg [(.s x0)]) 0)),(.i 0)]) 1))]))) .fail) .fail) .fail):=by kernel_rfl
theorem qnB(x0:List UInt8)(x1:List UInt8):qP [.s x0,.s x1]=(.br (okR (qg [(.s x0)])) (.br (ilt 18 (qw (gS (qg [(.s x0)]) 0))) (.leaf (0,[(.i 0),(.i 0),(.b false)])) (.br (okR (qg [(.s x1)])) (.br (ilt 18 (qw (gS (qg [(.s x1)]) 0))) (.leaf (0,[(.i 0),(.i 0),(.b false)])) (.br (okR (yN [(.s x0)])) (.br (okR (yN [(.s x1)])) (.leaf (0,[(.i (gI (yN [(.s x0)]) 0)),(.i (gI (yN [(.s x1)]) 0)),(.b true)])) .fail) .fail)) .fail)) .fail):=by kernel_rfl
theorem qdS(y0:List UInt8)(y1:Int)(y2:Int)(y3:R):zt [.s y0,.i y1,.i y2,.r y3]=(.br (ilt y2 y1) (.br (inb y2 (qL y3)) (.leaf (0,[(.s y0),(.i y1),(.i (qt .i64 y2 1)),(.r (qbN y3 y2 0 [(.i 48)]))])) .fail) (.leaf (1,[(.s y0),(.i y1),(.r y3)]))):=by kernel_rfl
theorem qpV(x0:List UInt8)(x1:Int):j0 [.s x0,.i x1]=(.br (ieq x1 x1) (.br (q6E x1 140737488355328) (.br (okR (qf zt [(.s x0),(.i x1),(.i 0),(.r (zK x1 [(.i 0)]))])) (.br (ilt 0 (qL (gR (qf zt [(.s x0),(.i x1),(.i 0),(.r (zK x1 [(.i 0)]))]) 2))) (.br (q6E (z8 .i64 (gI (qf zt [(.s x0),(.i x1),(.i 0),(.r (zK x1 [(.i 0)]))]) 1) (qw (gS (qf zt [(.s x0),(.i x1),(.i 0),(.r (zK x1 [(.i 0)]))]) 0))) (qL (gR (qf zt [(.s x0),(.i x1),(.i 0),(.r (zK x1 [(.i 0)]))]) 2))) (.br (ile (qw (gS (qf zt [(.s x0),(.i x1),(.i 0),(.r (zK x1 [(.i 0)]))]) 0)) (qrs (qL (gR (qf zt [(.s x0),(.i x1),(.i 0),(.r (zK x1 [(.i 0)]))]) 2)) (z8 .i64 (gI (qf zt [(.s x0),(.i x1),(.i 0),(.r (zK x1 [(.i 0)]))]) 1) (qw (gS (qf zt [(.s x0),(.i x1),(.i 0),(.r (zK x1 [(.i 0)]))]) 0))))) (.leaf (0,[(.s (qdU (qrr (gR (qf zt [(.s x0),(.i x1),(.i 0),(.r (zK x1 [(.i 0)]))]) 2) (z8 .i64 (gI (qf zt [(.s x0),(.i x1),(.i 0),(.r (zK x1 [(.i 0)]))]) 1) (qw (gS (qf zt [(.s x0),(.i x1),(.i 0),(.r (zK x1 [(.i 0)]))]) 0))) (gS (qf zt [(.s x0),(.i x1),(.i 0),(.r (zK x1 [(.i 0)]))]) 0))))])) .fail) .fail) .fail) .fail) .fail) .fail):=by kernel_rfl
theorem qlz(x0:Int)(x1:Int)(x2:Int)(x3:Bool):yO [.i x0,.i x1,.i x2,.b x3]=(.br x3 (.br (ilt 9 (qt .i64 (qt .i64 (j4 .i64 (z8 .u8 x0 48)) (j4 .i64 (z8 .u8 x1 48))) x2)) (.leaf (0,[(.i (j4 .u8 (z8 .i64 (qt .i64 48 (qt .i64 (qt .i64 (j4 .i64 (z8 .u8 x0 48)) (j4 .i64 (z8 .u8 x1 48))) x2)) 10))),(.i 1)])) (.br (ilt (qt .i64 (qt .i64 (j4 .i64 (z8 .u8 x0 48)) (j4 .i64 (z8 .u8 x1 48))) x2) 0) (.leaf (0,[(.i (j4 .u8 (qt .i64 (qt .i64 48 (qt .i64 (qt .i64 (j4 .i64 (z8 .u8 x0 48)) (j4 .i64 (z8 .u8 x1 48))) x2)) 10))),(.i 1)])) (.leaf (0,[(.i (j4 .u8 (qt .i64 48 (qt .i64 (qt .i64 (j4 .i64 (z8 .u8 x0 48)) (j4 .i64 (z8 .u8 x1 48))) x2)))),(.i 0)])))) (.br (ilt 9 (z8 .i64 (z8 .i64 (j4 .i64 (z8 .u8 x0 48)) (j4 .i64 (z8 .u8 x1 48))) x2)) (.leaf (0,[(.i (j4 .u8 (z8 .i64 (qt .i64 48 (z8 .i64 (z8 .i64 (j4 .i64 (z8 .u8 x0 48)) (j4 .i64 (z8 .u8 x1 48))) x2)) 10))),(.i 1)])) (.br (ilt (z8 .i64 (z8 .i64 (j4 .i64 (z8 .u8 x0 48)) (j4 .i64 (z8 .u8 x1 48))) x2) 0) (.leaf (0,[(.i (j4 .u8 (qt .i64 (qt .i64 48 (z8 .i64 (z8 .i64 (j4 .i64 (z8 .u8 x0 48)) (j4 .i64 (z8 .u8 x1 48))) x2)) 10))),(.i 1)])) (.leaf (0,[(.i (j4 .u8 (qt .i64 48 (z8 .i64 (z8 .i64 (j4 .i64 (z8 .u8 x0 48)) (j4 .i64 (z8 .u8 x1 48))) x2)))),(.i 0)]))))):=by kernel_rfl
theorem qmS(y0:List UInt8):q1y [.s y0]=(.br (ilt 1 (qw y0)) (.br (inb 0 (qw y0)) (.br (ieq (sat y0 0) 48) (.br (q6E (qw y0) (qw y0)) (.br (q6E 1 (qw y0)) (.leaf (0,[(.s (q5W y0 1 (qw y0)))])) .fail) .fail) (.leaf (1,[(.s y0)]))) .fail) (.leaf (1,[(.s y0)]))):=by kernel_rfl
theorem qpr(x0:List UInt8):ze [.s x0]=(.br (okR (qf q1y [(.s x0)])) (.leaf (0,[(.s (gS (qf q1y [(.s x0)]) 0))])) .fail):=by kernel_rfl
theorem qkx(y0:List UInt8)(y1:List UInt8)(y2:Bool)(y3:Int)(y4:Int)(y5:R):jZ [.s y0,.s y1,.b y2,.i y3,.i y4,.r y5]=(.br (ile 0 y4) (.br (inb y4 (qw y0)) (.br (inb y4 (qw y1)) (.br (okR (yO [(.i (sat y0 y4)),(.i (sat y1 y4)),(.i y3),(.b y2)])) (.br (inb y4 (qL y5)) (.leaf (0,[(.s y0),(.s y1),(.b y2),(.i (gI (yO [(.i (sat y0 y4)),(.i (sat y1 y4)),(.i y3),(.b y2)]) 1)),(.i (z8 .i64 y4 1)),(.r (qbN y5 y4 0 [(.i (gI (yO [(.i (sat y0 y4)),(.i (sat y1 y4)),(.i y3),(.b y2)]) 0))]))])) .fail) .fail) .fail) .fail) (.leaf (1,[(.r y5)]))):=by kernel_rfl
theorem qnA(x0:List UInt8)(x1:List UInt8)(x2:Bool):zD [.s x0,.s x1,.b x2]=(.br (okR (j0 [(.s x0),(.i (qt .i64 (q8m (qw x0) (qw x1)) 1))])) (.br (okR (j0 [(.s x1),(.i (qt .i64 (q8m (qw x0) (qw x1)) 1))])) (.br (ieq (qt .i64 (q8m (qw x0) (qw x1)) 1) (qt .i64 (q8m (qw x0) (qw x1)) 1)) (.br (q6E (qt .i64 (q8m (qw x0) (qw x1)) 1) 140737488355328) (.br (okR (qf jZ [(.s (gS (j0 [(.s x0),(.i (qt .i64 (q8m (qw x0) (qw x1)) 1))]) 0)),(.s (gS (j0 [(.s x1),(.i (qt .i64 (q8m (qw x0) (qw x1)) 1))]) 0)),(.b x2),(.i 0),(.i (z8 .i64 (qt .i64 (q8m (qw x0) (qw x1)) 1) 1)),(.r (zK (qt .i64 (q8m (qw x0) (qw x1)) 1) [(.i 0)]))])) (.br (okR (ze [(.s (qdU (gR (qf jZ [(.s (gS (j0 [(.s x0),(.i (qt .i64 (q8m (qw x0) (qw x1)) 1))]) 0)),(.s (gS (j0 [(.s x1),(.i (qt .i64 (q8m (qw x0) (qw x1)) 1))]) 0)),(.b x2),(.i 0),(.i (z8 .i64 (qt .i64 (q8m (qw x0) (qw x1)) 1) 1)),(.r (zK (qt .i64 (q8m (qw x0) (qw x1)) 1) [(.i 0)]))]) 0)))])) (.leaf (0,[(.s (gS (ze [(.s (qdU (gR (qf jZ [(.s (gS (j0 [(.s x0),(.i (qt .i64 (q8m (qw x0) (qw x1)) 1))]) 0)),(.s (gS (j0 [(.s x1),(.i (qt .i64 (q8m (qw x0) (qw x1)) 1))]) 0)),(.b x2),(.i 0),(.i (z8 .i64 (qt .i64 (q8m (qw x0) (qw x1)) 1) 1)),(.r (zK (qt .i64 (q8m (qw x0) (qw x1)) 1) [(.i 0)]))]) 0)))]) 0))])) .fail) .fail) .fail) .fail) .fail) .fail):=by kernel_rfl
theorem qpT(x0:List UInt8)(x1:List UInt8):ya [.s x0,.s x1]=(.br (ilt (qw x0) (qw x1)) (.leaf (0,[(.b true)])) (.br (ieq (qw x0) (qw x1)) (.leaf (0,[(.b (slt x0 x1))])) (.leaf (0,[(.b false)])))):=by kernel_rfl
theorem qoO(x0:List UInt8)(x1:List UInt8):yL [.s x0,.s x1]=(.br (okR (qP [(.s x0),(.s x1)])) (.br (gB (qP [(.s x0),(.s x1)]) 2) (.br (okR (zP [(.i (qt .i64 (gI (qP [(.s x0),(.s x1)]) 0) (gI (qP [(.s x0),(.s x1)]) 1)))])) (.leaf (0,[(.s (gS (zP [(.i (qt .i64 (gI (qP [(.s x0),(.s x1)]) 0) (gI (qP [(.s x0),(.s x1)]) 1)))]) 0))])) .fail) (.br (okR (qg [(.s x0)])) (.br (okR (qg [(.s x1)])) (.br (okR (qm [(.s x0)])) (.br (okR (qm [(.s x1)])) (.br (beq (gB (qm [(.s x0)]) 0) (gB (qm [(.s x1)]) 0)) (.br (okR (zD [(.s (gS (qg [(.s x0)]) 0)),(.s (gS (qg [(.s x1)]) 0)),(.b true)])) (.br (okR (qm [(.s x0)])) (.br (okR (qD [(.s (gS (zD [(.s (gS (qg [(.s x0)]) 0)),(.s (gS (qg [(.s x1)]) 0)),(.b true)]) 0)),(.b (gB (qm [(.s x0)]) 0))])) (.leaf (0,[(.s (gS (qD [(.s (gS (zD [(.s (gS (qg [(.s x0)]) 0)),(.s (gS (qg [(.s x1)]) 0)),(.b true)]) 0)),(.b (gB (qm [(.s x0)]) 0))]) 0))])) .fail) .fail) .fail) (.br (okR (ya [(.s (gS (qg [(.s x0)]) 0)),(.s (gS (qg [(.s x1)]) 0))])) (.br (gB (ya [(.s (gS (qg [(.s x0)]) 0)),(.s (gS (qg [(.s x1)]) 0))]) 0) (.br (okR (zD [(.s (gS (qg [(.s x1)]) 0)),(.s (gS (qg [(.s x0)]) 0)),(.b false)])) (.br (okR (qm [(.s x1)])) (.br (okR (qD [(.s (gS (zD [(.s (gS (qg [(.s x1)]) 0)),(.s (gS (qg [(.s x0)]) 0)),(.b false)]) 0)),(.b (gB (qm [(.s x1)]) 0))])) (.leaf (0,[(.s (gS (qD [(.s (gS (zD [(.s (gS (qg [(.s x1)]) 0)),(.s (gS (qg [(.s x0)]) 0)),(.b false)]) 0)),(.b (gB (qm [(.s x1)]) 0))]) 0))])) .fail) .fail) .fail) (.br (okR (zD [(.s (gS (qg [(.s x0)]) 0)),(.s (gS (qg [(.s x1)]) 0)),(.b false)])) (.br (okR (qm [(.s x0)])) (.br (okR (qD [(.s (gS (zD [(.s (gS (qg [(.s x0)]) 0)),(.s (gS (qg [(.s x1)]) 0)),(.b false)]) 0)),(.b (gB (qm [(.s x0)]) 0))])) (.leaf (0,[(.s (gS (qD [(.s (gS (zD [(.s (gS (qg [(.s x0)]) 0)),(.s (gS (qg [(.s x1)]) 0)),(.b false)]) 0)),(.b (gB (qm [(.s x0)]) 0))]) 0))])) .fail) .fail) .fail)) .fail)) .fail) .fail) .fail) .fail)) .fail):=by kernel_rfl
theorem qnv(x0:List UInt8)(x1:List UInt8):wU [.s x0,.s x1]=(.br (okR (qU [(.s x1)])) (.br (okR (yL [(.s x0),(.s (gS (qU [(.s x1)]) 0))])) (.leaf (0,[(.s (gS (yL [(.s x0),(.s (gS (qU [(.s x1)]) 0))]) 0))])) .fail) .fail):=by kernel_rfl
theorem qn3(x0:List UInt8)(x1:List UInt8):jM [.s x0,.s x1]=(.br (okR (wU [(.s x0),(.s x1)])) (.br (seq (gS (wU [(.s x0),(.s x1)]) 0) [48]) (.leaf (0,[(.i 0)])) (.br (okR (qm [(.s (gS (wU [(.s x0),(.s x1)]) 0))])) (.br (gB (qm [(.s (gS (wU [(.s x0),(.s x1)]) 0))]) 0) (.leaf (0,[(.i (-1))])) (.leaf (0,[(.i 1)]))) .fail)) .fail):=by kernel_rfl
theorem qhm(y0:List UInt8)(y1:List UInt8)(y2:Int)(y3:Int)(y4:R):wN [.s y0,.s y1,.i y2,.i y3,.r y4]=(.br (ilt y3 (qw y1)) (.br (inb (qt .i64 (qt .i64 y2 y3) 1) (qL y4)) (.br (inb y2 (qw y0)) (.br (inb y3 (qw y1)) (.br (inb (qt .i64 (qt .i64 y2 y3) 1) (qL y4)) (.leaf (0,[(.s y0),(.s y1),(.i y2),(.i (qt .i64 y3 1)),(.r (qbN y4 (qt .i64 (qt .i64 y2 y3) 1) 0 [(.i (qt .i64 (cI y4 (qt .i64 (qt .i64 y2 y3) 1) 0) (q0Q .i64 (j4 .i64 (z8 .u8 (sat y0 y2) 48)) (j4 .i64 (z8 .u8 (sat y1 y3) 48)))))]))])) .fail) .fail) .fail) .fail) (.leaf (1,[(.s y0),(.s y1),(.i y2),(.r y4)]))):=by kernel_rfl
theorem qhJ(y0:List UInt8)(y1:List UInt8)(y2:Int)(y3:R):zb [.s y0,.s y1,.i y2,.r y3]=(.br (ilt y2 (qw y0)) (.br (okR (qf wN [(.s y0),(.s y1),(.i y2),(.i 0),(.r y3)])) (.leaf (0,[(.s (gS (qf wN [(.s y0),(.s y1),(.i y2),(.i 0),(.r y3)]) 0)),(.s (gS (qf wN [(.s y0),(.s y1),(.i y2),(.i 0),(.r y3)]) 1)),(.i (qt .i64 (gI (qf wN [(.s y0),(.s y1),(.i y2),(.i 0),(.r y3)]) 2) 1)),(.r (gR (qf wN [(.s y0),(.s y1),(.i y2),(.i 0),(.r y3)]) 3))])) .fail) (.leaf (1,[(.r y3)]))):=by kernel_rfl
theorem qgk(y0:Int)(y1:Int)(y2:R)(y3:R):ve [.i y0,.i y1,.r y2,.r y3]=(.br (ile 0 y1) (.br (inb y1 (qL y2)) (.br (inb y1 (qL y3)) (.leaf (0,[(.i (yH .i64 (qt .i64 y0 (cI y2 y1 0)) 10)),(.i (z8 .i64 y1 1)),(.r y2),(.r (qbN y3 y1 0 [(.i (j4 .u8 (qt .i64 48 (q5s (qt .i64 y0 (cI y2 y1 0)) 10))))]))])) .fail) .fail) (.leaf (1,[(.r y3)]))):=by kernel_rfl
theorem qkC(x0:List UInt8)(x1:List UInt8):vE [.s x0,.s x1]=(.br (ieq (qt .i64 (qw x0) (qw x1)) (qt .i64 (qw x0) (qw x1))) (.br (q6E (qt .i64 (qw x0) (qw x1)) 17592186044416) (.br (okR (qf zb [(.s x0),(.s x1),(.i 0),(.r (zK (qt .i64 (qw x0) (qw x1)) [(.i 0)]))])) (.br (ieq (qL (gR (qf zb [(.s x0),(.s x1),(.i 0),(.r (zK (qt .i64 (qw x0) (qw x1)) [(.i 0)]))]) 0)) (qL (gR (qf zb [(.s x0),(.s x1),(.i 0),(.r (zK (qt .i64 (qw x0) (qw x1)) [(.i 0)]))]) 0))) (.br (q6E (qL (gR (qf zb [(.s x0),(.s x1),(.i 0),(.r (zK (qt .i64 (qw x0) (qw x1)) [(.i 0)]))]) 0)) 140737488355328) (.br (okR (qf ve [(.i 0),(.i (z8 .i64 (qL (gR (qf zb [(.s x0),(.s x1),(.i 0),(.r (zK (qt .i64 (qw x0) (qw x1)) [(.i 0)]))]) 0)) 1)),(.r (gR (qf zb [(.s x0),(.s x1),(.i 0),(.r (zK (qt .i64 (qw x0) (qw x1)) [(.i 0)]))]) 0)),(.r (zK (qL (gR (qf zb [(.s x0),(.s x1),(.i 0),(.r (zK (qt .i64 (qw x0) (qw x1)) [(.i 0)]))]) 0)) [(.i 0)]))])) (.br (okR (ze [(.s (qdU (gR (qf ve [(.i 0),(.i (z8 .i64 (qL (gR (qf zb [(.s x0),(.s x1),(.i 0),(.r (zK (qt .i64 (qw x0) (qw x1)) [(.i 0)]))]) 0)) 1)),(.r (gR (qf zb [(.s x0),(.s x1),(.i 0),(.r (zK (qt .i64 (qw x0) (qw x1)) [(.i 0)]))]) 0)),(.r (zK (qL (gR (qf zb [(.s x0),(.s x1),(.i 0),(.r (zK (qt .i64 (qw x0) (qw x1)) [(.i 0)]))]) 0)) [(.i 0)]))]) 0)))])) (.leaf (0,[(.s (gS (ze [(.s (qdU (gR (qf ve [(.i 0),(.i (z8 .i64 (qL (gR (qf zb [(.s x0),(.s x1),(.i 0),(.r (zK (qt .i64 (qw x0) (qw x1)) [(.i 0)]))]) 0)) 1)),(.r (gR (qf zb [(.s x0),(.s x1),(.i 0),(.r (zK (qt .i64 (qw x0) (qw x1)) [(.i 0)]))]) 0)),(.r (zK (qL (gR (qf zb [(.s x0),(.s x1),(.i 0),(.r (zK (qt .i64 (qw x0) (qw x1)) [(.i 0)]))]) 0)) [(.i 0)]))]) 0)))]) 0))])) .fail) .fail) .fail) .fail) .fail) .fail) .fail):=by kernel_rfl
theorem qnI(x0:List UInt8)(x1:List UInt8):zz [.s x0,.s x1]=(.br (okR (qP [(.s x0),(.s x1)])) (.br (gB (qP [(.s x0),(.s x1)]) 2) (.br (ile (qt .i64 (qw x0) (qw x1)) 18) (.br (okR (zP [(.i (q0Q .i64 (gI (qP [(.s x0),(.s x1)]) 0) (gI (qP [(.s x0),(.s x1)]) 1)))])) (.leaf (0,[(.s (gS (zP [(.i (q0Q .i64 (gI (qP [(.s x0),(.s x1)]) 0) (gI (qP [(.s x0),(.s x1)]) 1)))]) 0))])) .fail) (.br (okR (qg [(.s x0)])) (.br (okR (qg [(.s x1)])) (.br (okR (vE [(.s (gS (qg [(.s x0)]) 0)),(.s (gS (qg [(.s x1)]) 0))])) (.br (okR (qm [(.s x0)])) (.br (okR (qm [(.s x1)])) (.br (okR (qD [(.s (gS (vE [(.s (gS (qg [(.s x0)]) 0)),(.s (gS (qg [(.s x1)]) 0))]) 0)),(.b (not (beq (gB (qm [(.s x0)]) 0) (gB (qm [(.s x1)]) 0))))])) (.leaf (0,[(.s (gS (qD [(.s (gS (vE [(.s (gS (qg [(.s x0)]) 0)),(.s (gS (qg [(.s x1)]) 0))]) 0)),(.b (not (beq (gB (qm [(.s x0)]) 0) (gB (qm [(.s x1)]) 0))))]) 0))])) .fail) .fail) .fail) .fail) .fail) .fail)) (.br (okR (qg [(.s x0)])) (.br (okR (qg [(.s x1)])) (.br (okR (vE [(.s (gS (qg [(.s x0)]) 0)),(.s (gS (qg [(.s x1)]) 0))])) (.br (okR (qm [(.s x0)])) (.br (okR (qm [(.s x1)])) (.br (okR (qD [(.s (gS (vE [(.s (gS (qg [(.s x0)]) 0)),(.s (gS (qg [(.s x1)]) 0))]) 0)),(.b (not (beq (gB (qm [(.s x0)]) 0) (gB (qm [(.s x1)]) 0))))])) (.leaf (0,[(.s (gS (qD [(.s (gS (vE [(.s (gS (qg [(.s x0)]) 0)),(.s (gS (qg [(.s x1)]) 0))]) 0)),(.b (not (beq (gB (qm [(.s x0)]) 0) (gB (qm [(.s x1)]) 0))))]) 0))])) .fail) .fail) .fail) .fail) .fail) .fail)) .fail):=by kernel_rfl
theorem qgD(y0:List UInt8)(y1:List UInt8)(y2:List UInt8)(y3:List UInt8)(y4:Int)(y5:Int):zk [.s y0,.s y1,.s y2,.s y3,.i y4,.i y5]=(.br (okR (ya [(.s y3),(.s y1)])) (.br (not (gB (ya [(.s y3),(.s y1)]) 0)) (.br (okR (zD [(.s y3),(.s y1),(.b false)])) (.leaf (0,[(.s y0),(.s y1),(.s y2),(.s (gS (zD [(.s y3),(.s y1),(.b false)]) 0)),(.i y4),(.i (qt .u8 y5 1))])) .fail) (.leaf (1,[(.s y0),(.s y1),(.s y2),(.s y3),(.i y4),(.i y5)]))) .fail):=by kernel_rfl
theorem qhY(y0:List UInt8)(y1:List UInt8)(y2:List UInt8)(y3:List UInt8)(y4:Int):vZ [.s y0,.s y1,.s y2,.s y3,.i y4]=(.br (ilt y4 (qw y0)) (.br (q6E (qt .i64 y4 1) (qw y0)) (.br (q6E y4 (qt .i64 y4 1)) (.br (ile ((qw y3)+(qw (q5W y0 y4 (qt .i64 y4 1)))) 140737488355328) (.br (okR (ze [(.s (q6K y3 (q5W y0 y4 (qt .i64 y4 1))))])) (.br (okR (qf zk [(.s y0),(.s y1),(.s y2),(.s (gS (ze [(.s (q6K y3 (q5W y0 y4 (qt .i64 y4 1))))]) 0)),(.i y4),(.i 48)])) (.br (ile ((qw (gS (qf zk [(.s y0),(.s y1),(.s y2),(.s (gS (ze [(.s (q6K y3 (q5W y0 y4 (qt .i64 y4 1))))]) 0)),(.i y4),(.i 48)]) 2))+(qw (qdU [[(.i (gI (qf zk [(.s y0),(.s y1),(.s y2),(.s (gS (ze [(.s (q6K y3 (q5W y0 y4 (qt .i64 y4 1))))]) 0)),(.i y4),(.i 48)]) 5))]]))) 140737488355328) (.leaf (0,[(.s (gS (qf zk [(.s y0),(.s y1),(.s y2),(.s (gS (ze [(.s (q6K y3 (q5W y0 y4 (qt .i64 y4 1))))]) 0)),(.i y4),(.i 48)]) 0)),(.s (gS (qf zk [(.s y0),(.s y1),(.s y2),(.s (gS (ze [(.s (q6K y3 (q5W y0 y4 (qt .i64 y4 1))))]) 0)),(.i y4),(.i 48)]) 1)),(.s (q6K (gS (qf zk [(.s y0),(.s y1),(.s y2),(.s (gS (ze [(.s (q6K y3 (q5W y0 y4 (qt .i64 y4 1))))]) 0)),(.i y4),(.i 48)]) 2) (qdU [[(.i (gI (qf zk [(.s y0),(.s y1),(.s y2),(.s (gS (ze [(.s (q6K y3 (q5W y0 y4 (qt .i64 y4 1))))]) 0)),(.i y4),(.i 48)]) 5))]]))),(.s (gS (qf zk [(.s y0),(.s y1),(.s y2),(.s (gS (ze [(.s (q6K y3 (q5W y0 y4 (qt .i64 y4 1))))]) 0)),(.i y4),(.i 48)]) 3)),(.i (qt .i64 (gI (qf zk [(.s y0),(.s y1),(.s y2),(.s (gS (ze [(.s (q6K y3 (q5W y0 y4 (qt .i64 y4 1))))]) 0)),(.i y4),(.i 48)]) 4) 1))])) .fail) .fail) .fail) .fail) .fail) .fail) (.leaf (1,[(.s y2),(.s y3)]))):=by kernel_rfl
theorem qkt(x0:List UInt8)(x1:List UInt8):q2v [.s x0,.s x1]=(.br (okR (qf vZ [(.s x0),(.s x1),(.s []),(.s [48]),(.i 0)])) (.br (okR (ze [(.s (gS (qf vZ [(.s x0),(.s x1),(.s []),(.s [48]),(.i 0)]) 0))])) (.leaf (0,[(.s (gS (ze [(.s (gS (qf vZ [(.s x0),(.s x1),(.s []),(.s [48]),(.i 0)]) 0))]) 0)),(.s (gS (qf vZ [(.s x0),(.s x1),(.s []),(.s [48]),(.i 0)]) 1))])) .fail) .fail):=by kernel_rfl
theorem qml(x0:List UInt8)(x1:List UInt8):qQ [.s x0,.s x1]=(let r0:TR:=(qP [(.s x0),(.s x1)])
 .br (okR r0) (.br (gB r0 2) (.br (ine (gI r0 1) 0) (.br (ine (q5s (gI r0 0) (gI r0 1)) 0) (.br (not (beq (ilt (q5s (gI r0 0) (gI r0 1)) 0) (ilt (gI r0 1) 0))) (.br (ine (gI r0 1) 0) (let r1:TR:=(zP [(.i (yH .i64 (z8 .i64 (gI r0 0) (qt .i64 (q5s (gI r0 0) (gI r0 1)) (gI r0 1))) (gI r0 1)))])
 .br (okR r1) (let r2:TR:=(zP [(.i (qt .i64 (q5s (gI r0 0) (gI r0 1)) (gI r0 1)))])
 .br (okR r2) (.leaf (0,[(.s (gS r1 0)),(.s (gS r2 0))])) .fail) .fail) .fail) (.br (ine (gI r0 1) 0) (let r1:TR:=(zP [(.i (yH .i64 (z8 .i64 (gI r0 0) (q5s (gI r0 0) (gI r0 1))) (gI r0 1)))])
 .br (okR r1) (let r2:TR:=(zP [(.i (q5s (gI r0 0) (gI r0 1)))])
 .br (okR r2) (.leaf (0,[(.s (gS r1 0)),(.s (gS r2 0))])) .fail) .fail) .fail)) (.br (ine (gI r0 1) 0) (let r1:TR:=(zP [(.i (yH .i64 (z8 .i64 (gI r0 0) (q5s (gI r0 0) (gI r0 1))) (gI r0 1)))])
 .br (okR r1) (let r2:TR:=(zP [(.i (q5s (gI r0 0) (gI r0 1)))])
 .br (okR r2) (.leaf (0,[(.s (gS r1 0)),(.s (gS r2 0))])) .fail) .fail) .fail)) .fail) (let r1:TR:=(qg [(.s x0)])
 .br (okR r1) (let r2:TR:=(qg [(.s x1)])
 .br (okR r2) (let r3:TR:=(q2v [(.s (gS r1 0)),(.s (gS r2 0))])
 .br (okR r3) (let r4:TR:=(qm [(.s x0)])
 .br (okR r4) (let r5:TR:=(qm [(.s x1)])
 .br (okR r5) (let r6:TR:=(qD [(.s (gS r3 0)),(.b (not (beq (gB r4 0) (gB r5 0))))])
 .br (okR r6) (.br (not (seq (gS r3 1) [48])) (.br (okR r4) (.br (okR r5) (.br (not (beq (gB r4 0) (gB r5 0))) (let r7:TR:=(wU [(.s (gS r6 0)),(.s [49])])
 .br (okR r7) (let r8:TR:=(zz [(.s (gS r7 0)),(.s x1)])
 .br (okR r8) (let r9:TR:=(wU [(.s x0),(.s (gS r8 0))])
 .br (okR r9) (.leaf (0,[(.s (gS r7 0)),(.s (gS r9 0))])) .fail) .fail) .fail) (let r7:TR:=(zz [(.s (gS r6 0)),(.s x1)])
 .br (okR r7) (let r8:TR:=(wU [(.s x0),(.s (gS r7 0))])
 .br (okR r8) (.leaf (0,[(.s (gS r6 0)),(.s (gS r8 0))])) .fail) .fail)) .fail) .fail) (let r7:TR:=(zz [(.s (gS r6 0)),(.s x1)])
 .br (okR r7) (let r8:TR:=(wU [(.s x0),(.s (gS r7 0))])
 .br (okR r8) (.leaf (0,[(.s (gS r6 0)),(.s (gS r8 0))])) .fail) .fail)) .fail) .fail) .fail) .fail) .fail) .fail)) .fail):=by kernel_rfl
theorem qig(y0:Int)(y1:Int):vW [.i y0,.i y1]=(.br (ilt 0 y1) (.br (ine y1 0) (.leaf (0,[(.i y1),(.i (q5s y0 y1))])) .fail) (.leaf (1,[(.i y0)]))):=by kernel_rfl
theorem qjD(y0:List UInt8)(y1:List UInt8):jk [.s y0,.s y1]=(.br (not (seq y1 [48])) (.br (okR (qP [(.s y0),(.s y1)])) (.br (gB (qP [(.s y0),(.s y1)]) 2) (.br (okR (qf vW [(.i (gI (qP [(.s y0),(.s y1)]) 0)),(.i (gI (qP [(.s y0),(.s y1)]) 1))])) (.br (okR (zP [(.i (gI (qf vW [(.i (gI (qP [(.s y0),(.s y1)]) 0)),(.i (gI (qP [(.s y0),(.s y1)]) 1))]) 0))])) (.leaf (2,[(.s (gS (zP [(.i (gI (qf vW [(.i (gI (qP [(.s y0),(.s y1)]) 0)),(.i (gI (qP [(.s y0),(.s y1)]) 1))]) 0))]) 0))])) .fail) .fail) (.br (okR (qQ [(.s y0),(.s y1)])) (.leaf (0,[(.s y1),(.s (gS (qQ [(.s y0),(.s y1)]) 1))])) .fail)) .fail) (.leaf (1,[(.s y0)]))):=by kernel_rfl
theorem qmd(x0:List UInt8)(x1:List UInt8):qS [.s x0,.s x1]=(.br (okR (qg [(.s x0)])) (.br (okR (qD [(.s (gS (qg [(.s x0)]) 0)),(.b false)])) (.br (okR (qg [(.s x1)])) (.br (okR (qD [(.s (gS (qg [(.s x1)]) 0)),(.b false)])) (.br (okR (qf jk [(.s (gS (qD [(.s (gS (qg [(.s x0)]) 0)),(.b false)]) 0)),(.s (gS (qD [(.s (gS (qg [(.s x1)]) 0)),(.b false)]) 0))])) (.br (jIs (qf jk [(.s (gS (qD [(.s (gS (qg [(.s x0)]) 0)),(.b false)]) 0)),(.s (gS (qD [(.s (gS (qg [(.s x1)]) 0)),(.b false)]) 0))]) 0) (.leaf (0,[(.s (gS (qf jk [(.s (gS (qD [(.s (gS (qg [(.s x0)]) 0)),(.b false)]) 0)),(.s (gS (qD [(.s (gS (qg [(.s x1)]) 0)),(.b false)]) 0))]) 0))])) (.leaf (0,[(.s (gS (qf jk [(.s (gS (qD [(.s (gS (qg [(.s x0)]) 0)),(.b false)]) 0)),(.s (gS (qD [(.s (gS (qg [(.s x1)]) 0)),(.b false)]) 0))]) 0))]))) .fail) .fail) .fail) .fail) .fail):=by kernel_rfl
theorem qn4(x0:List UInt8):ka [.s x0]=(.br (okR (qp [(.s x0)])) (.br (okR (vJ [(.s (gS (qp [(.s x0)]) 0))])) (.br (ieq (gI (vJ [(.s (gS (qp [(.s x0)]) 0))]) 0) 3) (.leaf (0,[(.i 3)])) (.br (okR (vJ [(.s (gS (qp [(.s x0)]) 1))])) (.br (ieq (gI (vJ [(.s (gS (qp [(.s x0)]) 1))]) 0) 3) (.leaf (0,[(.i 3)])) (.br (okR (vJ [(.s (gS (qp [(.s x0)]) 0))])) (.br (ine (gI (vJ [(.s (gS (qp [(.s x0)]) 0))]) 0) 0) (.leaf (0,[(.i 11)])) (.br (okR (vJ [(.s (gS (qp [(.s x0)]) 1))])) (.br (ine (gI (vJ [(.s (gS (qp [(.s x0)]) 1))]) 0) 0) (.leaf (0,[(.i 11)])) (.br (okR (wT [(.s x0)])) (.br (ile 0 (gI (wT [(.s x0)]) 0)) (.br (okR (jM [(.s (gS (qp [(.s x0)]) 1)),(.s [49])])) (.br (ile (gI (jM [(.s (gS (qp [(.s x0)]) 1)),(.s [49])]) 0) 0) (.leaf (0,[(.i 3)])) (.br (okR (qS [(.s (gS (qp [(.s x0)]) 0)),(.s (gS (qp [(.s x0)]) 1))])) (.br (not (seq (gS (qS [(.s (gS (qp [(.s x0)]) 0)),(.s (gS (qp [(.s x0)]) 1))]) 0) [49])) (.leaf (0,[(.i 3)])) (.leaf (0,[(.i 0)]))) .fail)) .fail) (.leaf (0,[(.i 0)]))) .fail)) .fail)) .fail)) .fail)) .fail) .fail):=by kernel_rfl
theorem ql1(x0:List UInt8):jC [.s x0]=(.br (okR (qp [(.s x0)])) (.br (okR (jM [(.s (gS (qp [(.s x0)]) 0)),(.s [48])])) (.leaf (0,[(.i (gI (jM [(.s (gS (qp [(.s x0)]) 0)),(.s [48])]) 0))])) .fail) .fail):=by kernel_rfl
theorem q3O(y0:Int)(y1:Int)(y2:List UInt8)(y3:List UInt8)(y4:List UInt8)(y5:R):jb [.i y0,.i y1,.s y2,.s y3,.s y4,.r y5]=(.br (ilt y1 y0) (.br (inb y1 (qL y5)) (.br (okR (ka [(.s (cS y5 y1 0))])) (.br (ine (gI (ka [(.s (cS y5 y1 0))]) 0) 0) (.leaf (2,[(.i (gI (ka [(.s (cS y5 y1 0))]) 0))])) (.leaf (0,[(.i y0),(.i (qt .i64 y1 1)),(.s y2),(.s y3),(.s y4),(.r y5)]))) .fail) .fail) (.leaf (1,[(.s y2),(.s y3),(.s y4)]))):=by kernel_rfl
theorem qn5(x0:List UInt8)(x1:List UInt8)(x2:List UInt8):uH [.s x0,.s x1,.s x2]=(.br (okR (qf jb [(.i (qL [[(.s x0)],[(.s x1)],[(.s x2)]])),(.i 0),(.s x0),(.s x1),(.s x2),(.r [[(.s x0)],[(.s x1)],[(.s x2)]])])) (.br (jIs (qf jb [(.i (qL [[(.s x0)],[(.s x1)],[(.s x2)]])),(.i 0),(.s x0),(.s x1),(.s x2),(.r [[(.s x0)],[(.s x1)],[(.s x2)]])]) 0) (.br (okR (jC [(.s (gS (qf jb [(.i (qL [[(.s x0)],[(.s x1)],[(.s x2)]])),(.i 0),(.s x0),(.s x1),(.s x2),(.r [[(.s x0)],[(.s x1)],[(.s x2)]])]) 2))])) (.br (ilt (gI (jC [(.s (gS (qf jb [(.i (qL [[(.s x0)],[(.s x1)],[(.s x2)]])),(.i 0),(.s x0),(.s x1),(.s x2),(.r [[(.s x0)],[(.s x1)],[(.s x2)]])]) 2))]) 0) 0) (.leaf (0,[(.i 2)])) (.leaf (0,[(.i 0)]))) .fail) (.leaf (0,[(.i (gI (qf jb [(.i (qL [[(.s x0)],[(.s x1)],[(.s x2)]])),(.i 0),(.s x0),(.s x1),(.s x2),(.r [[(.s x0)],[(.s x1)],[(.s x2)]])]) 0))]))) .fail):=by kernel_rfl
theorem q4s(y0:R)(y1:Int):jG [.r y0,.i y1]=(.br (ilt y1 (qL y0)) (.br (inb y1 (qL y0)) (.br (okR (uH [(.s (cS y0 y1 0)),(.s (cS y0 y1 1)),(.s (cS y0 y1 2))])) (.br (ine (gI (uH [(.s (cS y0 y1 0)),(.s (cS y0 y1 1)),(.s (cS y0 y1 2))]) 0) 0) (.leaf (2,[(.i (gI (uH [(.s (cS y0 y1 0)),(.s (cS y0 y1 1)),(.s (cS y0 y1 2))]) 0))])) (.leaf (0,[(.r y0),(.i (qt .i64 y1 1))]))) .fail) .fail) (.leaf (1,[(.r y0)]))):=by kernel_rfl
theorem qhr(x0:R):uW [.r x0]=(.br (ilt 64 (qL x0)) (.leaf (0,[(.i 5)])) (.br (okR (qf jG [(.r x0),(.i 0)])) (.br (jIs (qf jG [(.r x0),(.i 0)]) 0) (.br (ieq (qL (gR (qf jG [(.r x0),(.i 0)]) 0)) 0) (.leaf (0,[(.i 13)])) (.leaf (0,[(.i 0)]))) (.leaf (0,[(.i (gI (qf jG [(.r x0),(.i 0)]) 0))]))) .fail)):=by kernel_rfl
theorem qkI(x0:List UInt8)(x1:List UInt8):zh [.s x0,.s x1]=(.br (okR (qp [(.s x0)])) (.br (okR (qp [(.s x1)])) (.br (okR (zz [(.s (gS (qp [(.s x0)]) 0)),(.s (gS (qp [(.s x1)]) 1))])) (.br (okR (zz [(.s (gS (qp [(.s x1)]) 0)),(.s (gS (qp [(.s x0)]) 1))])) (.br (okR (zz [(.s (gS (qp [(.s x0)]) 1)),(.s (gS (qp [(.s x1)]) 1))])) (.br (okR (zz [(.s (gS (qp [(.s x0)]) 0)),(.s (gS (qp [(.s x1)]) 0))])) (.br (okR (zz [(.s (gS (qp [(.s x0)]) 1)),(.s (gS (qp [(.s x1)]) 0))])) (.leaf (0,[(.r [[(.s (gS (zz [(.s (gS (qp [(.s x0)]) 0)),(.s (gS (qp [(.s x1)]) 1))]) 0))],[(.s (gS (zz [(.s (gS (qp [(.s x1)]) 0)),(.s (gS (qp [(.s x0)]) 1))]) 0))],[(.s (gS (zz [(.s (gS (qp [(.s x0)]) 1)),(.s (gS (qp [(.s x1)]) 1))]) 0))],[(.s (gS (zz [(.s (gS (qp [(.s x0)]) 0)),(.s (gS (qp [(.s x1)]) 0))]) 0))],[(.s (gS (zz [(.s (gS (qp [(.s x0)]) 1)),(.s (gS (qp [(.s x1)]) 0))]) 0))]])])) .fail) .fail) .fail) .fail) .fail) .fail) .fail):=by kernel_rfl
theorem qlx(x0:List UInt8)(x1:List UInt8):jU [.s x0,.s x1]=(.br (okR (qS [(.s x0),(.s x1)])) (.br (okR (qm [(.s x1)])) (.br (gB (qm [(.s x1)]) 0) (.br (okR (qU [(.s (gS (qS [(.s x0),(.s x1)]) 0))])) (.br (okR (qQ [(.s x0),(.s (gS (qU [(.s (gS (qS [(.s x0),(.s x1)]) 0))]) 0))])) (.br (okR (qQ [(.s x1),(.s (gS (qU [(.s (gS (qS [(.s x0),(.s x1)]) 0))]) 0))])) (.br (seq (gS (qQ [(.s x1),(.s (gS (qU [(.s (gS (qS [(.s x0),(.s x1)]) 0))]) 0))]) 0) [49]) (.leaf (0,[(.s (gS (qQ [(.s x0),(.s (gS (qU [(.s (gS (qS [(.s x0),(.s x1)]) 0))]) 0))]) 0))])) (.br (ile ((qw (gS (qQ [(.s x0),(.s (gS (qU [(.s (gS (qS [(.s x0),(.s x1)]) 0))]) 0))]) 0))+(qw [47])) 140737488355328) (.br (ile ((qw (q6K (gS (qQ [(.s x0),(.s (gS (qU [(.s (gS (qS [(.s x0),(.s x1)]) 0))]) 0))]) 0) [47]))+(qw (gS (qQ [(.s x1),(.s (gS (qU [(.s (gS (qS [(.s x0),(.s x1)]) 0))]) 0))]) 0))) 140737488355328) (.leaf (0,[(.s (q6K (q6K (gS (qQ [(.s x0),(.s (gS (qU [(.s (gS (qS [(.s x0),(.s x1)]) 0))]) 0))]) 0) [47]) (gS (qQ [(.s x1),(.s (gS (qU [(.s (gS (qS [(.s x0),(.s x1)]) 0))]) 0))]) 0)))])) .fail) .fail)) .fail) .fail) .fail) (.br (okR (qQ [(.s x0),(.s (gS (qS [(.s x0),(.s x1)]) 0))])) (.br (okR (qQ [(.s x1),(.s (gS (qS [(.s x0),(.s x1)]) 0))])) (.br (seq (gS (qQ [(.s x1),(.s (gS (qS [(.s x0),(.s x1)]) 0))]) 0) [49]) (.leaf (0,[(.s (gS (qQ [(.s x0),(.s (gS (qS [(.s x0),(.s x1)]) 0))]) 0))])) (.br (ile ((qw (gS (qQ [(.s x0),(.s (gS (qS [(.s x0),(.s x1)]) 0))]) 0))+(qw [47])) 140737488355328) (.br (ile ((qw (q6K (gS (qQ [(.s x0),(.s (gS (qS [(.s x0),(.s x1)]) 0))]) 0) [47]))+(qw (gS (qQ [(.s x1),(.s (gS (qS [(.s x0),(.s x1)]) 0))]) 0))) 140737488355328) (.leaf (0,[(.s (q6K (q6K (gS (qQ [(.s x0),(.s (gS (qS [(.s x0),(.s x1)]) 0))]) 0) [47]) (gS (qQ [(.s x1),(.s (gS (qS [(.s x0),(.s x1)]) 0))]) 0)))])) .fail) .fail)) .fail) .fail)) .fail) .fail):=by kernel_rfl
theorem qoT(x0:List UInt8)(x1:List UInt8):jq [.s x0,.s x1]=(.br (okR (zh [(.s x0),(.s x1)])) (.br (inb 0 (qL (gR (zh [(.s x0),(.s x1)]) 0))) (.br (inb 1 (qL (gR (zh [(.s x0),(.s x1)]) 0))) (.br (okR (yL [(.s (cS (gR (zh [(.s x0),(.s x1)]) 0) 0 0)),(.s (cS (gR (zh [(.s x0),(.s x1)]) 0) 1 0))])) (.br (inb 2 (qL (gR (zh [(.s x0),(.s x1)]) 0))) (.br (okR (jU [(.s (gS (yL [(.s (cS (gR (zh [(.s x0),(.s x1)]) 0) 0 0)),(.s (cS (gR (zh [(.s x0),(.s x1)]) 0) 1 0))]) 0)),(.s (cS (gR (zh [(.s x0),(.s x1)]) 0) 2 0))])) (.leaf (0,[(.s (gS (jU [(.s (gS (yL [(.s (cS (gR (zh [(.s x0),(.s x1)]) 0) 0 0)),(.s (cS (gR (zh [(.s x0),(.s x1)]) 0) 1 0))]) 0)),(.s (cS (gR (zh [(.s x0),(.s x1)]) 0) 2 0))]) 0))])) .fail) .fail) .fail) .fail) .fail) .fail):=by kernel_rfl
theorem q2l(y0:R)(y1:Int)(y2:R)(y3:Int)(y4:Int)(y5:R)(y6:Int)(y7:Int)(y8:Int)(y9:R)(y10:List UInt8)(y11:List UInt8)(y12:List UInt8):zl [.r y0,.i y1,.r y2,.i y3,.i y4,.r y5,.i y6,.i y7,.i y8,.r y9,.s y10,.s y11,.s y12]=(.br (ilt y7 y6) (.br (inb y7 (qL y5)) (.br (ine y7 y1) (.br (okR (qE [(.s (cS y5 y7 0)),(.s (cS y5 y7 1)),(.s (cS y5 y7 2)),(.s y10),(.s y11),(.s y12),(.i y8)])) (.br (gB (qE [(.s (cS y5 y7 0)),(.s (cS y5 y7 1)),(.s (cS y5 y7 2)),(.s y10),(.s y11),(.s y12),(.i y8)]) 0) (.br (ilt y7 y1) (.br (ile ((qL y9)+(qL [[(.i y1)]])) 17592186044416) (.leaf (1,[(.r y0),(.r y2),(.i y3),(.i y4),(.i (gI (qE [(.s (cS y5 y7 0)),(.s (cS y5 y7 1)),(.s (cS y5 y7 2)),(.s y10),(.s y11),(.s y12),(.i y8)]) 1)),(.r (q9P y9 [[(.i y1)]]))])) .fail) (.br (okR (qE [(.s y10),(.s y11),(.s y12),(.s (cS y5 y7 0)),(.s (cS y5 y7 1)),(.s (cS y5 y7 2)),(.i (gI (qE [(.s (cS y5 y7 0)),(.s (cS y5 y7 1)),(.s (cS y5 y7 2)),(.s y10),(.s y11),(.s y12),(.i y8)]) 1))])) (.br (not (gB (qE [(.s y10),(.s y11),(.s y12),(.s (cS y5 y7 0)),(.s (cS y5 y7 1)),(.s (cS y5 y7 2)),(.i (gI (qE [(.s (cS y5 y7 0)),(.s (cS y5 y7 1)),(.s (cS y5 y7 2)),(.s y10),(.s y11),(.s y12),(.i y8)]) 1))]) 0)) (.br (ile ((qL y9)+(qL [[(.i y1)]])) 17592186044416) (.leaf (1,[(.r y0),(.r y2),(.i y3),(.i y4),(.i (gI (qE [(.s y10),(.s y11),(.s y12),(.s (cS y5 y7 0)),(.s (cS y5 y7 1)),(.s (cS y5 y7 2)),(.i (gI (qE [(.s (cS y5 y7 0)),(.s (cS y5 y7 1)),(.s (cS y5 y7 2)),(.s y10),(.s y11),(.s y12),(.i y8)]) 1))]) 1)),(.r (q9P y9 [[(.i y1)]]))])) .fail) (.leaf (0,[(.r y0),(.i y1),(.r y2),(.i y3),(.i y4),(.r y5),(.i y6),(.i (qt .i64 y7 1)),(.i (gI (qE [(.s y10),(.s y11),(.s y12),(.s (cS y5 y7 0)),(.s (cS y5 y7 1)),(.s (cS y5 y7 2)),(.i (gI (qE [(.s (cS y5 y7 0)),(.s (cS y5 y7 1)),(.s (cS y5 y7 2)),(.s y10),(.s y11),(.s y12),(.i y8)]) 1))]) 1)),(.r y9),(.s y10),(.s y11),(.s y12)]))) .fail)) (.leaf (0,[(.r y0),(.i y1),(.r y2),(.i y3),(.i y4),(.r y5),(.i y6),(.i (qt .i64 y7 1)),(.i (gI (qE [(.s (cS y5 y7 0)),(.s (cS y5 y7 1)),(.s (cS y5 y7 2)),(.s y10),(.s y11),(.s y12),(.i y8)]) 1)),(.r y9),(.s y10),(.s y11),(.s y12)]))) .fail) (.leaf (0,[(.r y0),(.i y1),(.r y2),(.i y3),(.i y4),(.r y5),(.i y6),(.i (qt .i64 y7 1)),(.i y8),(.r y9),(.s y10),(.s y11),(.s y12)]))) .fail) (.leaf (1,[(.r y0),(.r y2),(.i y3),(.i y4),(.i y8),(.r y9)]))):=by kernel_rfl
theorem q7s(y0:R)(y1:R)(y2:Int)(y3:Int)(y4:Int)(y5:R):wE [.r y0,.r y1,.i y2,.i y3,.i y4,.r y5]=(.br (ilt y3 y2) (.br (inb y3 (qL y1)) (.br (okR (qf zl [(.r y0),(.i y3),(.r y1),(.i y2),(.i y3),(.r y0),(.i (qL y0)),(.i 0),(.i y4),(.r y5),(.s (cS y1 y3 0)),(.s (cS y1 y3 1)),(.s (cS y1 y3 2))])) (.leaf (0,[(.r (gR (qf zl [(.r y0),(.i y3),(.r y1),(.i y2),(.i y3),(.r y0),(.i (qL y0)),(.i 0),(.i y4),(.r y5),(.s (cS y1 y3 0)),(.s (cS y1 y3 1)),(.s (cS y1 y3 2))]) 0)),(.r (gR (qf zl [(.r y0),(.i y3),(.r y1),(.i y2),(.i y3),(.r y0),(.i (qL y0)),(.i 0),(.i y4),(.r y5),(.s (cS y1 y3 0)),(.s (cS y1 y3 1)),(.s (cS y1 y3 2))]) 1)),(.i (gI (qf zl [(.r y0),(.i y3),(.r y1),(.i y2),(.i y3),(.r y0),(.i (qL y0)),(.i 0),(.i y4),(.r y5),(.s (cS y1 y3 0)),(.s (cS y1 y3 1)),(.s (cS y1 y3 2))]) 2)),(.i (qt .i64 (gI (qf zl [(.r y0),(.i y3),(.r y1),(.i y2),(.i y3),(.r y0),(.i (qL y0)),(.i 0),(.i y4),(.r y5),(.s (cS y1 y3 0)),(.s (cS y1 y3 1)),(.s (cS y1 y3 2))]) 3) 1)),(.i (gI (qf zl [(.r y0),(.i y3),(.r y1),(.i y2),(.i y3),(.r y0),(.i (qL y0)),(.i 0),(.i y4),(.r y5),(.s (cS y1 y3 0)),(.s (cS y1 y3 1)),(.s (cS y1 y3 2))]) 4)),(.r (gR (qf zl [(.r y0),(.i y3),(.r y1),(.i y2),(.i y3),(.r y0),(.i (qL y0)),(.i 0),(.i y4),(.r y5),(.s (cS y1 y3 0)),(.s (cS y1 y3 1)),(.s (cS y1 y3 2))]) 5))])) .fail) .fail) (.leaf (1,[(.i y4),(.r y5)]))):=by kernel_rfl
theorem qiD(x0:R):vT [.r x0]=(.br (okR (zi [(.r x0)])) (.br (ine (gI (zi [(.r x0)]) 0) 0) (.leaf (0,[(.r []),(.i (gI (zi [(.r x0)]) 0))])) (.br (okR (qf wE [(.r x0),(.r x0),(.i (qL x0)),(.i 0),(.i 0),(.r [])])) (.br (ine (gI (qf wE [(.r x0),(.r x0),(.i (qL x0)),(.i 0),(.i 0),(.r [])]) 0) 0) (.leaf (0,[(.r []),(.i (gI (qf wE [(.r x0),(.r x0),(.i (qL x0)),(.i 0),(.i 0),(.r [])]) 0))])) (.leaf (0,[(.r (gR (qf wE [(.r x0),(.r x0),(.i (qL x0)),(.i 0),(.i 0),(.r [])]) 1)),(.i 0)]))) .fail)) .fail):=by kernel_rfl
theorem qno(x0:R):q1g [.r x0]=(.br (ile (qL x0) 5) (.br (okR (q4a [(.r x0)])) (.br (gB (q4a [(.r x0)]) 0) (.br (okR (uW [(.r x0)])) (.leaf (0,[(.b (ieq (gI (uW [(.r x0)]) 0) 0))])) .fail) (.leaf (0,[(.b false)]))) .fail) (.leaf (0,[(.b false)]))):=by kernel_rfl
theorem q3F(y0:R)(y1:Int)(y2:Int)(y3:Int):wu [.r y0,.i y1,.i y2,.i y3]=(.br (ilt y3 y2) (.br (inb y3 (qL y0)) (.br (ieq y1 (cI y0 y3 0)) (.leaf (2,[(.i y3)])) (.leaf (0,[(.r y0),(.i y1),(.i y2),(.i (qt .i64 y3 1))]))) .fail) (.leaf (1,[]))):=by kernel_rfl
theorem qcv(x0:R)(x1:Int):vn [.r x0,.i x1]=(.br (okR (qf wu [(.r x0),(.i x1),(.i (qL x0)),(.i 0)])) (.br (jIs (qf wu [(.r x0),(.i x1),(.i (qL x0)),(.i 0)]) 0) (.leaf (0,[(.i (-1))])) (.leaf (0,[(.i (gI (qf wu [(.r x0),(.i x1),(.i (qL x0)),(.i 0)]) 0))]))) .fail):=by kernel_rfl
theorem q9E(x0:R)(x1:Int):wd [.r x0,.i x1]=(.br (okR (vn [(.r x0),(.i x1)])) (.leaf (0,[(.b (ile 0 (gI (vn [(.r x0),(.i x1)]) 0)))])) .fail):=by kernel_rfl
theorem qnH(x0:Int):km [.i x0]=(.br (okR (zP [(.i x0)])) (.leaf (0,[(.s (gS (zP [(.i x0)]) 0))])) .fail):=by kernel_rfl
theorem q9r(y0:Int)(y1:Int)(y2:List UInt8)(y3:List UInt8)(y4:List UInt8)(y5:List UInt8)(y6:List UInt8)(y7:R):kn [.i y0,.i y1,.s y2,.s y3,.s y4,.s y5,.s y6,.r y7]=(.br (ilt y1 y0) (.br (inb y1 (qL y7)) (.br (okR (zj [(.s (cS y7 y1 0))])) (.br (ine (gI (zj [(.s (cS y7 y1 0))]) 0) 0) (.leaf (2,[(.b false),(.i (gI (zj [(.s (cS y7 y1 0))]) 0))])) (.leaf (0,[(.i y0),(.i (qt .i64 y1 1)),(.s y2),(.s y3),(.s y4),(.s y5),(.s y6),(.r y7)]))) .fail) .fail) (.leaf (1,[(.s y2),(.s y3),(.s y4),(.s y5),(.s y6)]))):=by kernel_rfl
theorem qjF(x0:List UInt8)(x1:List UInt8)(x2:List UInt8)(x3:List UInt8)(x4:List UInt8):vH [.s x0,.s x1,.s x2,.s x3,.s x4]=(let r0:TR:=(wt [(.s x0),(.s x1),(.s x2)])
 .br (okR r0) (.br (ine (gI r0 0) 0) (.leaf (0,[(.b false),(.i (gI r0 0))])) (let r1:TR:=(qf kn [(.i (qL [[(.s x3)],[(.s x4)]])),(.i 0),(.s x0),(.s x1),(.s x2),(.s x3),(.s x4),(.r [[(.s x3)],[(.s x4)]])])
 .br (okR r1) (.br (jIs r1 0) (let r2:TR:=(jm [(.s (gS r1 0)),(.s (gS r1 1)),(.s (gS r1 3)),(.s (gS r1 4)),(.i 0)])
 .br (okR r2) (let r3:TR:=(zq [(.s (gS r2 0)),(.s (gS r1 2)),(.i (gI r2 1))])
 .br (okR r3) (.br (ile (gI r3 0) 0) (.leaf (0,[(.b (ieq (gI r3 1) 0)),(.i (gI r3 1))])) (.leaf (0,[(.b false),(.i (gI r3 1))]))) .fail) .fail) (.leaf (0,[(.b (gB r1 0)),(.i (gI r1 1))]))) .fail)) .fail):=by kernel_rfl
theorem q5t(y0:R)(y1:Int)(y2:Bool)(y3:R)(y4:R)(y5:Int)(y6:Int)(y7:Int)(y8:Int)(y9:Int)(y10:R)(y11:R):j1 [.r y0,.i y1,.b y2,.r y3,.r y4,.i y5,.i y6,.i y7,.i y8,.i y9,.r y10,.r y11]=(.br (ilt y6 y5) (.br (inb y6 (qL y4)) (let r0:TR:=(wd [(.r y3),(.i y6)])
 .br (okR r0) (.br (not (gB r0 0)) (.br (ile ((qL y10)+(qL [[(.s (cS y4 y6 0)),(.s (cS y4 y6 1)),(.s (cS y4 y6 2))]])) 2932031007402) (let r1:TR:=(km [(.i (j4 .i64 y1))])
 .br (okR r1) (let r2:TR:=(jq [(.s (cS y4 y6 2)),(.s (gS r1 0))])
 .br (okR r2) (let r3:TR:=(zT [(.s (cS y4 y6 0)),(.s (cS y4 y6 1)),(.s (gS r2 0))])
 .br (okR r3) (.br (ile ((qL y11)+(qL [[(.s (gS r3 0)),(.s (gS r3 1)),(.s (gS r3 2))]])) 2932031007402) (.leaf (0,[(.r y0),(.i y1),(.b y2),(.r y3),(.r y4),(.i y5),(.i (qt .i64 y6 1)),(.i y7),(.i y8),(.i y9),(.r (q9P y10 [[(.s (cS y4 y6 0)),(.s (cS y4 y6 1)),(.s (cS y4 y6 2))]])),(.r (q9P y11 [[(.s (gS r3 0)),(.s (gS r3 1)),(.s (gS r3 2))]]))])) .fail) .fail) .fail) .fail) .fail) (let r1:TR:=(km [(.i (j4 .i64 y1))])
 .br (okR r1) (let r2:TR:=(jq [(.s (cS y4 y6 2)),(.s (gS r1 0))])
 .br (okR r2) (let r3:TR:=(zT [(.s (cS y4 y6 0)),(.s (cS y4 y6 1)),(.s (gS r2 0))])
 .br (okR r3) (.br (ile ((qL y11)+(qL [[(.s (gS r3 0)),(.s (gS r3 1)),(.s (gS r3 2))]])) 2932031007402) (.leaf (0,[(.r y0),(.i y1),(.b y2),(.r y3),(.r y4),(.i y5),(.i (qt .i64 y6 1)),(.i y7),(.i y8),(.i y9),(.r y10),(.r (q9P y11 [[(.s (gS r3 0)),(.s (gS r3 1)),(.s (gS r3 2))]]))])) .fail) .fail) .fail) .fail)) .fail) .fail) (.leaf (1,[(.r y0),(.b y2),(.i y7),(.i y8),(.i y9),(.r y10),(.r y11)]))):=by kernel_rfl
theorem q5q(y0:R)(y1:R)(y2:Int)(y3:Int)(y4:Int)(y5:Int)(y6:Int):vY [.r y0,.r y1,.i y2,.i y3,.i y4,.i y5,.i y6]=(.br (ilt y3 y2) (.br (inb y3 (qL y1)) (.br (inb y4 (qL y0)) (.br (okR (vH [(.s (cS y1 y3 0)),(.s (cS y1 y3 1)),(.s (cS y1 y3 2)),(.s (cS y0 y4 0)),(.s (cS y0 y4 1))])) (.br (ine (gI (vH [(.s (cS y1 y3 0)),(.s (cS y1 y3 1)),(.s (cS y1 y3 2)),(.s (cS y0 y4 0)),(.s (cS y0 y4 1))]) 1) 0) (.leaf (2,[(.b false)])) (.br (not (gB (vH [(.s (cS y1 y3 0)),(.s (cS y1 y3 1)),(.s (cS y1 y3 2)),(.s (cS y0 y4 0)),(.s (cS y0 y4 1))]) 0)) (.leaf (2,[(.b false)])) (.leaf (0,[(.r y0),(.r y1),(.i y2),(.i (qt .i64 y3 1)),(.i y4),(.i y5),(.i y6)])))) .fail) .fail) .fail) (.leaf (1,[]))):=by kernel_rfl
theorem qgI(x0:R)(x1:Int):uJ [.r x0,.i x1]=(let r0:TR:=(q1g [(.r x0)])
 .br (okR r0) (.br (not (gB r0 0)) (let r1:TR:=(zA [])
 .br (okR r1) (.leaf (0,[(.b (gB r1 0))])) .fail) (let r1:TR:=(v6 [(.r x0)])
 .br (okR r1) (let r2:TR:=(vT [(.r x0)])
 .br (okR r2) (.br (ine (gI r1 4) 0) (.leaf (0,[(.b false)])) (.br (ine (gI r2 1) 0) (.leaf (0,[(.b false)])) (let r3:TR:=(qf j1 [(.r x0),(.i x1),(.b (gB r1 0)),(.r (gR r2 0)),(.r x0),(.i (qL x0)),(.i 0),(.i (gI r1 1)),(.i (gI r1 2)),(.i (gI r1 3)),(.r []),(.r [])])
 .br (okR r3) (let r4:TR:=(v6 [(.r (gR r3 5))])
 .br (okR r4) (let r5:TR:=(v6 [(.r (gR r3 6))])
 .br (okR r5) (.br (ine (gI r4 4) 0) (.leaf (0,[(.b false)])) (.br (ine (gI r5 4) 0) (.leaf (0,[(.b false)])) (.br (not (beq (gB r4 0) (gB r3 1))) (.leaf (0,[(.b false)])) (.br (gB r3 1) (.br (not (gB r5 0)) (.leaf (0,[(.b false)])) (.br (gB r3 1) (.br (ieq (gI r3 2) (gI r3 3)) (.br (ile 0 (gI r3 2)) (.br (ilt (gI r3 2) (qL (gR r3 0))) (let r6:TR:=(qf vY [(.r (gR r3 0)),(.r (gR r3 0)),(.i (qL (gR r3 0))),(.i 0),(.i (gI r3 2)),(.i (gI r3 3)),(.i (gI r3 4))])
 .br (okR r6) (.br (jIs r6 0) (let r7:TR:=(zA [])
 .br (okR r7) (.leaf (0,[(.b (gB r7 0))])) .fail) (.leaf (0,[(.b (gB r6 0))]))) .fail) (let r6:TR:=(zA [])
 .br (okR r6) (.leaf (0,[(.b (gB r6 0))])) .fail)) (let r6:TR:=(zA [])
 .br (okR r6) (.leaf (0,[(.b (gB r6 0))])) .fail)) (let r6:TR:=(zA [])
 .br (okR r6) (.leaf (0,[(.b (gB r6 0))])) .fail)) (let r6:TR:=(zA [])
 .br (okR r6) (.leaf (0,[(.b (gB r6 0))])) .fail))) (.br (gB r3 1) (.br (ieq (gI r3 2) (gI r3 3)) (.br (ile 0 (gI r3 2)) (.br (ilt (gI r3 2) (qL (gR r3 0))) (let r6:TR:=(qf vY [(.r (gR r3 0)),(.r (gR r3 0)),(.i (qL (gR r3 0))),(.i 0),(.i (gI r3 2)),(.i (gI r3 3)),(.i (gI r3 4))])
 .br (okR r6) (.br (jIs r6 0) (let r7:TR:=(zA [])
 .br (okR r7) (.leaf (0,[(.b (gB r7 0))])) .fail) (.leaf (0,[(.b (gB r6 0))]))) .fail) (let r6:TR:=(zA [])
 .br (okR r6) (.leaf (0,[(.b (gB r6 0))])) .fail)) (let r6:TR:=(zA [])
 .br (okR r6) (.leaf (0,[(.b (gB r6 0))])) .fail)) (let r6:TR:=(zA [])
 .br (okR r6) (.leaf (0,[(.b (gB r6 0))])) .fail)) (let r6:TR:=(zA [])
 .br (okR r6) (.leaf (0,[(.b (gB r6 0))])) .fail)))))) .fail) .fail) .fail))) .fail) .fail)) .fail):=by kernel_rfl
end Go.Eng

namespace Go.Eng
mutual
def qie{H:Type}:DataW H→List U
 | .lit (.bool b)=>[.b b]
 | .lit (.int _ n)=>[.i n]
 | .lit (.string s)=>[.s s]
 | .nil=>[.l []]
 | .slice es _=>[.l (qr2 es)]
 | .agg ps=>quD ps
 | _=>[.i 0]
def quD{H:Type}:List (DataW H)→List U
 | []=>[]
 | d::l=>qie d++quD l
def qr2{H:Type}:List (DataW H)→List (List U)
 | []=>[]
 | d::l=>qie d::qr2 l
end
theorem qeM{H:Type}:∀l:List (DataW H),qr2 l=l.map qie
 | []=>rfl
 | d::l=>by simp[qr2,qeM l]
inductive UFit:Sh→U→Prop
 | int (k:IntKind) (n:Int) (h0:k.min≤n) (h1:n≤k.max):UFit (.int k) (.i n)
 | bool (b:Bool):UFit .bool (.b b)
 | str (s:List UInt8) (h:s.length≤maxLen):UFit .str (.s s)
 | sl (row:List Sh) (l:R) (h:l.length≤maxLen) (hl:∀r,r∈l→r.length=row.length) (hf:∀(r:List U) (j:Nat) (s:Sh) (u:U),r∈l→row[j]?=some s→r[j]?=some u→UFit s u):UFit (.sl row) (.l l)
inductive CR (W:World) (M:Nat→Prop):List Sh→List U→List Value→Prop
 | nil:CR W M [] [] []
 | cons {s:Sh} {u:U} {v:Value} {sh:List Sh} {us:List U} {vs:List Value} (h:RepU W M s u v) (f:UFit s u) (t:CR W M sh us vs):CR W M (s::sh) (u::us) (v::vs)
theorem CR.append{W:World}{M:Nat→Prop}{a a':List Sh}{b b':List U}{c c':List Value}(h:CR W M a b c)(k:CR W M a' b' c'):CR W M (a++a') (b++b') (c++c'):=by
 induction h with
 | nil=>exact k
 | cons h f t ih=>exact .cons h f ih
theorem CR.len{W:World}{M:Nat→Prop}{a:List Sh}{b:List U}{c:List Value}(h:CR W M a b c):b.length=a.length∧c.length=a.length:=by
 induction h with
 | nil=>exact⟨rfl,rfl⟩
 | cons h f t ih=>simp[ih.1,ih.2]
theorem CR.get{W:World}{M:Nat→Prop}{a:List Sh}{b:List U}{c:List Value}(h:CR W M a b c):∀(j:Nat) (s:Sh),a[j]?=some s→∃u v,b[j]?=some u∧c[j]?=some v∧RepU W M s u v∧UFit s u:=by
 induction h with
 | nil=>intro j s hj;simp at hj
 | cons h f t ih=>
  intro j s hj
  cases j with
  | zero=>simp at hj;subst hj;exact⟨_,_,rfl,rfl,h,f⟩
  | succ j=>simpa using ih j s (by simpa using hj)
def qpp:Nat→List (Nat×TypeId×Nat)→Bool
 | _,[]=>true
 | o,f::l=>Nat.beq f.1 o&&qpp (o+f.2.2) l
def qu9:List (Nat×TypeId×Nat)→Nat
 | []=>0
 | f::l=>f.2.2+qu9 l
def qqH(x:TI):Bool:=match x.d with
 | .struct fs=>qpp 0 fs&&Nat.beq (qu9 fs) x.size
 | .array n _ es=>Nat.beq (n*es) x.size
 | .slice _ es=>Nat.blt 0 es
 | _=>true
theorem qyb{E:Env}(h:E.tt.all (fun x=>qqH x.2)=true)(t:TypeId):qqH (E.ty t)=true:=by
 unfold Env.ty
 cases hf:E.tt.find? fun x=>x.1==t with
 | none=>rfl
 | some x=>exact List.all_eq_true.1 h x (List.mem_of_find?_eq_some hf)
section
variable {H:Type} {enc:TypeId×Value→H} {P:Program} {W:World} {base:Nat} {sp:Nat→Bool} {held:Bool} {E:Env}
theorem qom{M:Nat→Prop}{fuel n:Nat}{cs:List Value}(ih:∀t cs d ps sh,E.shape n t=some sh→DataW.trod enc P W base sp held fuel t cs=some (d,ps)→CR W M sh (qie d) cs) :
  ∀(fs:List (Nat×TypeId×Nat)) (o:Nat) (xs:List (DataW H×List MemPlace)) (shs:List (List Sh)),qpp o fs=true→o+qu9 fs=cs.length→fs.mapM (fun f=>E.shape n f.2.1)=some shs →
   xs.length=fs.length→(∀(i:Nat) (f:Nat×TypeId×Nat),fs[i]?=some f→DataW.trod enc P W base sp held fuel f.2.1 ((cs.drop f.1).take f.2.2)=xs[i]?) →
   CR W M shs.flatten (quD (xs.map (·.1))) (cs.drop o)
 | [],o,xs,shs,_,hs,hsh,hl,_=>by
  simp[qu9] at hs hsh hl
  subst hsh hl
  have:cs.drop o=[]:=List.drop_eq_nil_of_le (by omega)
  rw[this]
  exact .nil
 | f::fs,o,xs,shs,hlay,hs,hsh,hl,hx=>by
  simp only[qpp,Bool.and_eq_true] at hlay
  obtain⟨h1,h2⟩:=hlay
  have ho:f.1=o:=Nat.eq_of_beq_eq_true h1
  simp only[qu9] at hs
  rw[List.mapM_cons] at hsh
  cases hsf:E.shape n f.2.1 with
  | none=>rw[hsf] at hsh;cases hsh
  | some shf=>
   cases hrest:fs.mapM (fun f=>E.shape n f.2.1) with
   | none=>rw[hsf,hrest] at hsh;cases hsh
   | some shr=>
    rw[hsf,hrest] at hsh
    cases hsh
    cases xs with
    | nil=>simp at hl
    | cons x xs=>
     have h0:=hx 0 f rfl
     simp only[List.getElem?_cons_zero] at h0
     have c1:=ih f.2.1 _ x.1 x.2 shf hsf h0
     rw[ho] at c1
     have c2:=qom (cs:=cs) (M:=M) (fuel:=fuel) ih fs (o+f.2.2) xs shr h2 (by omega) hrest (by simpa using hl) fun i g hg=>by
      have:=hx (i+1) g (by simpa using hg)
      simpa using this
     have hsplit:cs.drop o=(cs.drop o).take f.2.2++cs.drop (o+f.2.2):=by
      rw[←List.drop_drop,List.take_append_drop]
     rw[hsplit]
     simp only[List.flatten_cons,List.map_cons,quD]
     exact c1.append c2
theorem qr3{M:Nat→Prop}{fuel n es:Nat}{e:TypeId}{cs:List Value}{she:List Sh}(he:E.shape n e=some she)
  (ih:∀t cs d ps sh,E.shape n t=some sh→DataW.trod enc P W base sp held fuel t cs=some (d,ps)→CR W M sh (qie d) cs) :
  ∀(m o:Nat) (xs:List (DataW H×List MemPlace)),(o+m)*es=cs.length→xs.length=m→(∀i,i<m→DataW.trod enc P W base sp held fuel e ((cs.drop ((o+i)*es)).take es)=xs[i]?) →
   CR W M (List.replicate m she).flatten (quD (xs.map (·.1))) (cs.drop (o*es))
 | 0,o,xs,hs,hl,_=>by
  simp at hl hs;subst hl
  have:cs.drop (o*es)=[]:=List.drop_eq_nil_of_le (by omega)
  rw[this]
  exact .nil
 | m+1,o,xs,hs,hl,hx=>by
  cases xs with
  | nil=>simp at hl
  | cons x xs=>
   have h0:=hx 0 (by omega)
   simp only[List.getElem?_cons_zero,Nat.add_zero] at h0
   have c1:=ih e _ x.1 x.2 she he h0
   have c2:=qr3 (cs:=cs) he ih m (o+1) xs (by rw[←hs];congr 1;omega) (by simpa using hl) fun i hi=>by
    have:=hx (i+1) (by omega)
    rw[show o+(i+1)=o+1+i by omega] at this
    simpa using this
   have hsplit:cs.drop (o*es)=(cs.drop (o*es)).take es++cs.drop ((o+1)*es):=by
    rw[Nat.add_mul,Nat.one_mul,←List.drop_drop,List.take_append_drop]
   rw[hsplit]
   simp only[List.replicate_succ,List.flatten_cons,List.map_cons,quD]
   exact c1.append c2
theorem qtM(hE:E.tok P)(hlay:E.tt.all (fun x=>qqH x.2)=true):∀(fuel n:Nat) (t:TypeId) (cs:List Value) (d:DataW H) (ps:List MemPlace) (sh:List Sh),E.shape n t=some sh →
  DataW.trod enc P W base sp held fuel t cs=some (d,ps)→CR W (fun b=>b<W.heap.size) sh (qie d) cs:=by
 intro fuel
 induction fuel with
 | zero=>intro n t cs d ps sh _ h;simp[DataW.trod] at h
 | succ fuel ih=>
  intro n t cs d ps sh hsh h
  cases n with
  | zero=>simp[Env.shape] at hsh
  | succ n=>
   simp only[Env.shape] at hsh
   have hl:=qyb hlay t
   unfold qqH at hl
   cases hd:(E.ty t).d<;>rw[hd] at hsh hl<;>simp only at hsh hl<;>try (cases hsh)
   ·
    unfold DataW.trod at h
    rw[qls hE hd] at h
    split at h<;>simp_all
    obtain⟨rfl,_⟩:=h
    exact .cons (.bool (.b _)) (.bool _) .nil
   ·
    rename_i k
    unfold DataW.trod at h
    rw[qlS hE hd] at h
    split at h<;>simp_all
    obtain⟨⟨rfl,hw⟩,rfl,_⟩:=h
    simp[Lit.wf] at hw
    exact .cons (.int _ (.i _)) (.int _ _ hw.1 hw.2) .nil
   ·
    unfold DataW.trod at h
    rw[qfV hE hd] at h
    split at h<;>simp_all
    rename_i s
    obtain⟨hm,rfl,_⟩:=h
    refine .cons ?_ (.str _ (by simpa using hm)) .nil
    have:=RepU.str (w:=W) (M:=fun b=>b<W.heap.size) (.s s.data.toList)
    simpa[U.toS] using this
   ·
    rename_i e es
    obtain⟨ht,rfl⟩:=q2y hE hd
    cases he:E.shape n e with
    | none=>rw[he] at hsh;cases hsh
    | some she=>
     rw[he] at hsh
     cases hsh
     have hpos:0<P.cellsOf e:=by simpa[Nat.blt_eq] using hl
     rcases DataW.trod_slice ht h with⟨rfl,hx⟩|⟨a,len,cap,elems,rest,k,hk,rfl,hx,hb,hlc,hcm,hlen,hel,_,_⟩
     ·cases hx
      exact .cons (.slnil _ _ rfl) (.sl _ _ (by simp[maxLen]) (fun r hr=>by cases hr) (fun r j s u hr=>by cases hr)) .nil
     ·cases hx
      cases hk
      have hrow:∀(i:Nat) (hi:i<len),∃cs',W.cells? base (a.add (i*P.cellsOf e)) (P.cellsOf e)=some cs'∧CR W (fun b=>b<W.heap.size) she (qie (elems[i]'(by omega)).1) cs':=by
       intro i hi
       have h0:=hel i hi
       rw[List.getElem?_eq_getElem (by omega)] at h0
       obtain⟨cs',g1,g2⟩:=Option.bind_eq_some_iff.1 h0
       exact⟨cs',g1,ih n e cs' _ _ she he g2⟩
      have hget:∀(r:Nat) (hr:r<len),(((elems.map (·.1)).map qie).getD r []:List U)=qie (elems[r]'(by omega)).1:=by
       intro r hr
       simp[List.getD_eq_getElem?_getD,hlen,hr]
      have hcell:∀(r j:Nat) (s:Sh) (hr:r<len),she[j]?=some s→∃v,W.cell? ⟨a.block,a.off+r*she.length+j,none⟩=some v∧RepU W (fun b=>b<W.heap.size) s (jj (qr2 (elems.map (·.1))) r j) v∧UFit s ((qie (elems[r]'(by omega)).1).getD j (.i 0))∧a.spot=none∧a.block<W.heap.size:=by
       intro r j s hr hj
       obtain⟨cs',g1,g2⟩:=hrow r hr
       obtain⟨_,g4,g5⟩:=World.cells?_some g1
       obtain⟨q1,q2⟩:=g2.len
       obtain⟨u,v,e1,e2,e3,e4⟩:=g2.get j s hj
       have hlen:she.length=P.cellsOf e:=by rw[←q2,g4]
       have hjl:j<P.cellsOf e:=by rw[←hlen];exact zf hj
       have hc:=(g5 j hjl).trans e2
       have h00:=g5 0 hpos
       obtain⟨cs0,z1,z2⟩:=hrow 0 (by omega)
       obtain⟨_,z4,z5⟩:=World.cells?_some z1
       have hz:=z5 0 hpos
       obtain⟨v0,hv0⟩:∃v0,cs0[0]?=some v0:=⟨cs0[0],List.getElem?_eq_getElem (by omega)⟩
       rw[hv0] at hz
       simp only[Nat.zero_mul,Addr.add,if_true] at hz
       have hspot:=World.cell?_spot hz
       refine⟨v,?_,?_,?_,hspot,World.block_lt_of_cell? _ _ hz⟩
       ·rw[←hc,Addr.add_of hspot,Addr.add_lit,hlen]
       ·have:jj (qr2 (elems.map (·.1))) r j=u:=by
         rw[qeM]
         unfold jj
         rw[Int.toNat_natCast,hget r hr]
         simp[List.getD_eq_getElem?_getD,e1]
        rw[this];exact e3
       ·simp[List.getD_eq_getElem?_getD,e1];exact e4
      have hrl:(qr2 (elems.map (·.1))).length=len:=by rw[qeM];simp[hlen]
      have hsh0:0<len→0<she.length:=by
       intro hl0
       obtain⟨cs',g1,g2⟩:=hrow 0 hl0
       obtain⟨_,g4,_⟩:=World.cells?_some g1
       rw[←g2.len.2,g4];exact hpos
      refine .cons ?_ (.sl _ _ (by rw[hrl];omega) ?_ ?_) .nil
      ·have hR:=qbP (w:=W) (M:=fun b=>b<W.heap.size) (row:=she) (l:=qr2 (elems.map (·.1))) (v:=.slice (some a) len cap) (.inr ⟨a,cap,by rw[hrl],fun h0=>by
        rw[hrl] at h0
        obtain⟨_,_,_,_,h4,_⟩:=hcell 0 0 she[0] h0 (List.getElem?_eq_getElem (hsh0 h0))
        exact h4,by rw[hrl];exact hlc,fun r j hj hr=>by
        rw[hrl] at hr
        obtain⟨v,h1,h2,_,_,h5⟩:=hcell r j she[j] hr (List.getElem?_eq_getElem hj)
        exact⟨h5,v,h1,h2⟩⟩)
       exact hR
      ·intro r hr
       rw[qeM] at hr
       obtain⟨i,hi⟩:=List.getElem?_of_mem hr
       have hil:i<len:=by have:=zf hi;simpa[hlen] using this
       have:r=qie (elems[i]'(by omega)).1:=by
        rw[←hget i hil,List.getD_eq_getElem?_getD,hi];rfl
       obtain⟨cs',g1,g2⟩:=hrow i hil
       rw[this];exact g2.len.1
      ·intro r j s u hr hs hu
       rw[qeM] at hr
       obtain⟨i,hi⟩:=List.getElem?_of_mem hr
       have hil:i<len:=by have:=zf hi;simpa[hlen] using this
       have:r=qie (elems[i]'(by omega)).1:=by
        rw[←hget i hil,List.getD_eq_getElem?_getD,hi];rfl
       subst this
       obtain⟨_,_,_,h3,_⟩:=hcell i j s hil hs
       simpa[List.getD_eq_getElem?_getD,hu] using h3
   ·
    rename_i m e es
    obtain⟨ht,rfl⟩:=q9Z hE hd
    cases he:E.shape n e with
    | none=>rw[he] at hsh;cases hsh
    | some she=>
     rw[he] at hsh
     cases hsh
     obtain⟨xs,m0,hf,hx,hcl,hxl,hel⟩:=DataW.trod_array ht h
     cases hf
     cases hx
     have hsz:m*P.cellsOf e=cs.length:=by
      rw[hcl]
      have h1:=Nat.eq_of_beq_eq_true hl
      obtain⟨_,i,dd,h2,_,_,h4,_⟩:=q1c hE (t:=t) (by rw[hd];rfl)
      rw[h1,h4]
      unfold Program.cellsOf
      rw[h2];rfl
     have:=qr3 (cs:=cs) he (fun t cs d ps sh h1 h2=>ih n t cs d ps sh h1 h2) m 0 xs (by simpa using hsz) hxl (fun i hi=>by simpa using hel i hi)
     simpa[qie] using this
   ·
    rename_i fs
    obtain⟨fields,ht,rfl⟩:=q6j hE hd
    cases hm:(fields.toList.map fun f=>(f.offset,f.type,P.cellsOf f.type)).mapM fun f=>E.shape n f.2.1 with
    | none=>rw[hm] at hsh;cases hsh
    | some shs=>
     rw[hm] at hsh
     cases hsh
     obtain⟨xs,m0,hf,hx,hcl,hxl,hel⟩:=DataW.trod_struct ht h
     cases hf
     cases hx
     simp only[Bool.and_eq_true] at hl
     have hsz:qu9 (fields.toList.map fun f=>(f.offset,f.type,P.cellsOf f.type))=cs.length:=by
      rw[hcl]
      have h1:=Nat.eq_of_beq_eq_true hl.2
      obtain⟨_,i,dd,h2,_,_,h4,_⟩:=q1c hE (t:=t) (by rw[hd];rfl)
      rw[h1,h4]
      unfold Program.cellsOf
      rw[h2];rfl
     have:=qom (cs:=cs) (fun t cs d ps sh h1 h2=>ih n t cs d ps sh h1 h2) _ 0 xs shs hl.1 (by simpa using hsz) hm (by simpa using hxl) (fun i f hf=>by
      rw[List.getElem?_map] at hf
      cases hfi:fields.toList[i]? with
      | none=>rw[hfi] at hf;cases hf
      | some g=>
       rw[hfi] at hf
       cases hf
       exact hel i g (by simpa using hfi))
     simpa[qie] using this
end
end Go.Eng

namespace Go.Eng
open Go.RowKit
inductive UFits:List Sh→List U→Prop
 | nil:UFits [] []
 | cons {s:Sh} {u:U} {sh:List Sh} {us:List U} (h:UFit s u) (t:UFits sh us):UFits (s::sh) (u::us)
theorem CR.fits{W:World}{M:Nat→Prop}{a:List Sh}{b:List U}{c:List Value}(h:CR W M a b c):UFits a b:=by
 induction h with
 | nil=>exact .nil
 | cons h f t ih=>exact .cons f ih
def q7w:List Sh→List U→List AV
 | .int k::sh,u::us=>.int k u.toI::q7w sh us
 | .bool::sh,u::us=>.bool u.toB::q7w sh us
 | .str::sh,u::us=>.str u.toS::q7w sh us
 | .sl row::sh,u::us=>.imm row u.toR::q7w sh us
 | _,_=>[]
theorem quM{X:Ctx}{sh:List Sh}{us:List U}{vs:List Value}(h:CR X.w X.M sh us vs):RepL X (q7w sh us) vs:=by
 induction h with
 | nil=>exact .nil
 | cons h f t ih=>
  rename_i s u v sh us vs
  cases s with
  | int k=>cases h;exact .cons (.int _ _) ih
  | bool=>cases h;exact .cons (.bool _) ih
  | str=>cases h;exact .cons (.str _) ih
  | sl row=>exact .cons (.imm _ _ _ (qiE h)) ih
def qq0(agg:Bool)(sh:List Sh)(us:List U):AV:=match agg with
 | true=>.agg (q7w sh us)
 | false=>(q7w sh us).headD .undef
section
variable {H:Type} {enc:TypeId×Value→H} {P:Program} {W:World} {base:Nat} {sp:Nat→Bool} {held:Bool} {E:Env}
theorem qrE(hE:E.tok P)(hlay:E.tt.all (fun x=>qqH x.2)=true){X:Ctx}(hw:X.w=W)(hM:X.M=fun b=>b<W.heap.size){r:Reach}{b0:Nat}{n:Nat}{t:TypeId}{v:Value}{d:DataW H}{ps:List MemPlace}{sh:List Sh}
  (hsh:E.shape n t=some sh) (hv:Value.okWide P W r b0 t v) (hd:DataW.Trod enc P W base sp held t v d ps):UFits sh (qie d)∧Rep X (qq0 (E.ty t).d.isAgg sh (qie d)) v:=by
 obtain⟨fuel,hf⟩:=hd
 have hc:=qtM hE hlay fuel n t _ d ps sh hsh hf
 refine⟨hc.fits,?_⟩
 have hr:RepL X (q7w sh (qie d)) v.cells.toList:=quM (by rw[hw,hM];exact hc)
 have hone:∀(_:(E.ty t).d.isAgg=false),v.cells=#[v]→Rep X (qq0 (E.ty t).d.isAgg sh (qie d)) v:=by
  intro ha hcell
  rw[ha]
  rw[hcell] at hr
  simp only[qq0]
  generalize q7w sh (qie d)=l at hr
  cases hr with
  | cons h1 h2=>simpa using h1
 unfold Value.okWide at hv
 cases n with
 | zero=>simp[Env.shape] at hsh
 | succ n=>
  simp only[Env.shape] at hsh
  cases hd:(E.ty t).d<;>rw[hd] at hsh hone<;>simp only at hsh<;>try (cases hsh)
  ·rw[qls hE hd] at hv
   refine hone rfl ?_
   cases v<;>simp[Cell.okWide,qls hE hd,Cell.ok] at hv<;>rfl
  ·rw[qlS hE hd] at hv
   refine hone rfl ?_
   cases v<;>simp[Cell.okWide,qlS hE hd,Cell.ok] at hv<;>rfl
  ·rw[qfV hE hd] at hv
   refine hone rfl ?_
   cases v<;>simp[Cell.okWide,qfV hE hd,Cell.ok] at hv<;>rfl
  ·rw[(q2y hE hd).1] at hv
   refine hone rfl ?_
   cases v<;>simp[Cell.okWide,(q2y hE hd).1,Cell.ok] at hv<;>rfl
  ·rw[(q9Z hE hd).1] at hv
   obtain⟨cs,rfl,_,_⟩:=hv
   simp only[TD.isAgg,qq0]
   exact .agg _ _ (by simpa[Value.cells] using hr)
  ·obtain⟨fields,ht,_⟩:=q6j hE hd
   rw[ht] at hv
   obtain⟨cs,rfl,_,_⟩:=hv
   simp only[TD.isAgg,qq0]
   exact .agg _ _ (by simpa[Value.cells] using hr)
end
theorem qoi{H:Type}{enc:TypeId×Value→H}{P:Program}{W:World}{base:Nat}{sp:Nat→Bool}{held:Bool}{ts:List TypeId}{ds:List (DataW H)}(h:(DataW.weightsEach P ts ds).all (·≤reachBytes)=true)
  (j:Nat) {t e:TypeId} {v:Value} {d:DataW H} {ps:List MemPlace} {x:R} {b:Nat} (ht:ts[j]?=some t) (hd:ds[j]?=some d) (hu:P.underlying t=some (.slice e)) (hb:P.bytesOf e=b)
  (htr:DataW.Trod enc P W base sp held t v d ps) (hx:[.l x]=qie d):x.length*b≤140737488351232:=by
 have he:x.length=0∨∃es spr,d=.slice es spr∧x.length=es.length:=by
  obtain⟨fuel,hf⟩:=htr
  rcases DataW.trod_slice hu hf with⟨_,hx'⟩|⟨_,_,_,elems,rest,_,_,_,hx',_⟩
  ·cases hx'
   simp only[qie,List.cons.injEq,U.l.injEq,and_true] at hx
   rw[hx];exact .inl rfl
  ·cases hx'
   simp only[qie,List.cons.injEq,U.l.injEq,and_true] at hx
   exact .inr ⟨_,_,rfl,by rw[hx,qeM];simp⟩
 rcases he with he|⟨es,spr,rfl,he⟩
 ·rw[he];omega
 ·have:=List.all_eq_true.1 h _ (DataW.weights_mem_each ht hd ((es.length+spr.length)*P.bytesOf e) (by simp[DataW.weights,hu]))
  have h2:(es.length+spr.length)*P.bytesOf e≤reachBytes:=by simpa using this
  rw[hb] at h2
  rw[he]
  have h3:es.length*b≤(es.length+spr.length)*b:=Nat.mul_le_mul_right _ (by omega)
  have h4:reachBytes=140737488351232:=rfl
  omega
def qsG(W:World):Ctx:={ σ:=fun _=>none,h:=[],w:=W,M:=fun b=>b<W.heap.size }
def quf(W:World):Base:={ w0:=W,imps:=[],M0:=fun b=>b<W.heap.size,fs:=[] }
theorem qB1(W:World):HSim (quf W) (qsG W):=by
 have hno:∀b n,¬(qsG W).own b n:=by
  intro b n ⟨h,_⟩;cases h
 refine⟨fun b k h=>?_,fun b b' n h=>absurd h (hno b n),fun b n h=>absurd h (hno b n),fun n h=>h,fun n h=>h,fun n h=>.inl h,rfl,rfl,rfl,Nat.le_refl _,fun _ _ _=>rfl,fun b h=>?_,fun b h=>?_,fun b n h=>absurd h (hno b n),fun p hp=>by cases hp⟩
 ·have:([]:List Blk)[b]?=some k:=h
  simp at this
 ·exact absurd h (by simp[quf])
 ·exact absurd h (by simp[quf])
theorem qzG(W:World):Entry (quf W) (qsG W):=⟨rfl,rfl,fun _ h=>h⟩
theorem qqC{P:Program}{gl:List (Nat×AV)}{f:FuncId}{G:q10}(hG:wg P gl f G){W:World}(hgl:qa6 gl (qsG W)){args:List AV}{vargs:List Value}(ha:RepL (qsG W) args vargs)
  (h:(G args []).run=some (.bool true,[])):Calls P f vargs.toArray W fun e W'=>e=.returned (.bool true)∧Below W.heap.size W W':=by
 refine(hG.2 (quf W) (qsG W) args vargs _ (qB1 W) (qzG W) hgl ha h).mono fun e W' ⟨v,X',e1,e2,e3,e4,e5,_⟩=>?_
 subst e2
 refine⟨?_,e5.os,e5.tape,e5.output,e5.size,fun k hk=>e5.frame k hk (by simp[quf])⟩
 rw[e1]
 cases e3;rfl
theorem qnM{i:FIn}{outs:List FOut}{T:List PV→TR}{args:List AV}{ps:List PV}(ho:outs=[{ res:=.bool,h:=[] }])(hi:i.take args []=some ps)(hT:(T ps).run=some (0,[.b true])) :
  (qc i outs T args []).run=some (.bool true,[]):=by
 subst ho
 unfold qc
 rw[hi]
 simp only[Tree.run,okR,hT,Option.isSome_some]
 simp only[qzF,FOut.kinds,AP.kinds,BP.kindsL,List.append_nil,qku,gB,pR,hT,List.getD_cons_zero,PV.toB,FOut.make,AP.make,BP.makeL,Tree.run]
theorem qwH{P:Program}{W:World}{E:Env}(hE:E.tok P)(hlay:E.tt.all (fun x=>qqH x.2)=true){name:String}{g n:Nat}{t:TypeId}{d:DataW Unit}{sh:List Sh}
  (hg:P.globalNamed name=some g) (hty:(P.globals[g]?).map (·.type)=some t) (hsh:E.shape n t=some sh) {ds:List (String×DataW Unit)} (h:laidMet P ds W) (hm:(name,d)∈ds) :
  qxA (qsG W) (g,.eptr sh [qie d] 0 0):=by
 obtain⟨ps,hl,_⟩:=h
 have key:∀(ds:List (String×DataW Unit)) (ps:List MemPlace),DataW.LaidVars P W ds ps→(name,d)∈ds→∃cs fuel p,W.var? P name=some cs∧DataW.trod (fun _=>()) P W 0 (fun _=>true) false fuel t cs.toList=some (d,p):=by
  intro ds
  induction ds with
  | nil=>intro ps _ h;cases h
  | cons x ds ih=>
   intro ps hl hm
   obtain⟨nm,dd⟩:=x
   obtain⟨g',t',cs,fuel,p,q,h1,h2,h3,h4,h5,_⟩:=hl
   rcases List.mem_cons.1 hm with he|hm
   ·cases he
    obtain rfl:=Option.some.inj (hg.symm.trans h1)
    obtain rfl:=Option.some.inj (hty.symm.trans h2)
    exact⟨cs,fuel,p,h3,h4⟩
   ·exact ih q h5 hm
 obtain⟨cs,fuel,p,h3,h4⟩:=key ds ps hl hm
 have hc:=qtM hE hlay fuel n t _ d p sh hsh h4
 have hheap:∃T fr,W.heap[g]?=some (.cells cs T fr):=by
  unfold World.var? at h3
  rw[hg] at h3
  simp only[Option.bind_some] at h3
  split at h3
  ·rename_i cs' T fr he
   cases h3
   exact⟨T,fr,he⟩
  ·cases h3
 suffices hs:Rows (qsG W).w (qsG W).M sh [qie d] ⟨g,0,none⟩ by
  refine⟨?_,?_,?_⟩
  ·have:=Rep.eptr (X:=qsG W) sh [qie d] 0 0 ⟨g,0,none⟩ rfl (Int.le_refl _) (by simp) hs
   simpa using this
  ·obtain⟨T,fr,he⟩:=hheap
   exact(Array.getElem?_eq_some_iff.1 he).1
  ·have:=World.var?_cell hg h3 sh.length
   show W.cell? ⟨g,sh.length*1,none⟩=none
   rw[Nat.mul_one,this,Array.getElem?_eq_none]
   rw[←Array.length_toList,hc.len.2]
   exact Nat.le_refl _
 intro r j hj hr
 have hr0:r=0:=by simpa using hr
 subst hr0
 obtain⟨u,v,e1,e2,e3,_⟩:=hc.get j sh[j] (List.getElem?_eq_getElem hj)
 have hcell:W.cell? ⟨g,j,none⟩=some v:=by
  have:=World.var?_cell hg h3 j
  rw[this];simpa using e2
 refine⟨World.block_lt_of_cell? W ⟨g,j,none⟩ hcell,v,?_,?_⟩
 ·rw[Nat.zero_mul,Nat.add_zero,Nat.zero_add];exact hcell
 have:jj [qie d] (0:Nat) j=u:=by simp[jj,List.getD_eq_getElem?_getD,e1]
 rw[this];exact e3
theorem UFits.int{k:IntKind}{sh:List Sh}{us:List U}(h:UFits (.int k::sh) us):∃n us',us=.i n::us'∧k.min≤n∧n≤k.max∧UFits sh us':=by
 cases h with
 | cons h t=>cases h with
  | int k n h0 h1=>exact⟨n,_,rfl,h0,h1,t⟩
theorem UFits.bool{sh:List Sh}{us:List U}(h:UFits (.bool::sh) us):∃b us',us=.b b::us'∧UFits sh us':=by
 cases h with
 | cons h t=>cases h with
  | bool b=>exact⟨b,_,rfl,t⟩
theorem UFits.str{sh:List Sh}{us:List U}(h:UFits (.str::sh) us):∃s us',us=.s s::us'∧s.length≤maxLen∧UFits sh us':=by
 cases h with
 | cons h t=>cases h with
  | str s h0=>exact⟨s,_,rfl,h0,t⟩
theorem UFits.sl{row sh:List Sh}{us:List U}(h:UFits (.sl row::sh) us):∃l us',us=.l l::us'∧UFit (.sl row) (.l l)∧UFits sh us':=by
 cases h with
 | cons h t=>
  rename_i u us
  cases u with
  | l x=>exact⟨x,_,rfl,h,t⟩
  | _=>cases h
theorem UFits.none{us:List U}(h:UFits [] us):us=[]:=by cases h;rfl
end Go.Eng

namespace Go.Eng
theorem qzX{α:Type}(b:Bool)(t e:Tree α):(Tree.br b t e).run=if b=true then t.run else e.run:=by cases b<;>rfl
theorem qxx{α:Type}(a:α):(Tree.leaf a).run=some a:=rfl
theorem qxO{α:Type}:(Tree.fail:Tree α).run=none:=rfl
theorem wi{x y:Int}(h:-9223372036854775808≤x+y∧x+y≤9223372036854775807):qt .i64 x y=x+y:=by
 unfold qt IntKind.wrap
 simp[IntKind.signed,IntKind.bits];omega
theorem ub{x y:Int}(h:-9223372036854775808≤x-y∧x-y≤9223372036854775807):z8 .i64 x y=x-y:=by
 unfold z8 IntKind.wrap
 simp[IntKind.signed,IntKind.bits];omega
theorem q8u{x y:Int}(h:-9223372036854775808≤x*y∧x*y≤9223372036854775807):q0Q .i64 x y=x*y:=by
 unfold q0Q IntKind.wrap
 simp[IntKind.signed,IntKind.bits];omega
theorem qsr(x y:Int):(ieq x y=true)=(x=y):=by simp[ieq]
theorem qzB(x y:Int):(ine x y=true)=(x≠y):=by simp[ine]
theorem qz6(x y:Int):(ilt x y=true)=(x<y):=by simp[ilt]
theorem qzo(x y:Int):(ile x y=true)=(x≤y):=by simp[ile]
theorem qzf(x y:Bool):(Go.Eng.beq x y=true)=(x=y):=by simp[Go.Eng.beq]
theorem qAF{a b A B:Int}(h1:-A≤a)(h2:a≤A)(h3:-B≤b)(h4:b≤B):-(A*B)≤a*b∧a*b≤A*B:=by
 have e1:=Int.mul_nonneg (show 0≤A-a by omega) (show 0≤B-b by omega)
 have e2:=Int.mul_nonneg (show 0≤A+a by omega) (show 0≤B+b by omega)
 have e3:=Int.mul_nonneg (show 0≤A-a by omega) (show 0≤B+b by omega)
 have e4:=Int.mul_nonneg (show 0≤A+a by omega) (show 0≤B-b by omega)
 simp only[Int.sub_mul,Int.mul_sub,Int.add_mul,Int.mul_add] at e1 e2 e3 e4
 omega
theorem qpQ{x:Int}(h:-9223372036854775807≤x∧x≤9223372036854775807):z8 .i64 0 x=-x:=by
 rw[ub (by omega)];omega
theorem qkX{x:Int}(h:-9223372036854775808≤x∧x≤9223372036854775807):j4 .i64 x=x:=by
 unfold j4 IntKind.wrap
 simp[IntKind.signed,IntKind.bits];omega
theorem qxw(b:Bool):((!b)=true)=¬(b=true):=by cases b<;>simp
theorem qy1(x y:Bool):(quW x y=true)=(x=true∧y=true):=by simp[quW]
theorem qAA(i n:Int):(inb i n=true)=(0≤i∧i<n):=by simp[inb]
theorem qzA(i n:Int):(q6E i n=true)=(0≤i∧i≤n):=by simp[q6E]
theorem STD:(∀(α:Type) (b:Bool) (t e:Tree α),(Tree.br b t e).run=if b=true then t.run else e.run)∧(∀(α:Type) (a:α),(Tree.leaf a).run=some a)∧(∀(α:Type),(Tree.fail:Tree α).run=none) ∧
  (∀R:TR,okR R=R.run.isSome)∧(∀(α:Type) (a:α),(some a).isSome=true)∧(∀(R:TR) (i:Nat),gI R i=(pR R i).toI)∧(∀(R:TR) (i:Nat),gB R i=(pR R i).toB)∧(∀(R:TR) (i:Nat),gS R i=(pR R i).toS)∧(∀(R:TR) (i:Nat),gR R i=(pR R i).toR) ∧
  (∀(R:TR) (i:Nat),pR R i=R.run.elim (.i 0) fun r=>r.2.getD i (.i 0))∧(∀(α β:Type) (b:β) (f:α→β) (a:α),(some a).elim b f=f a) ∧
  (∀(a:PV) (l:List PV) (d:PV),(a::l).getD 0 d=a)∧(∀(a:PV) (l:List PV) (d:PV) (n:Nat),(a::l).getD (n+1) d=l.getD n d) ∧
  (∀n,(PV.i n).toI=n)∧(∀b,(PV.b b).toB=b)∧(∀s,(PV.s s).toS=s)∧(∀l,(PV.r l).toR=l) ∧
  (∀(α:Type) (h:Decidable True) (a b:α),@ite α True h a b=a)∧(∀(α:Type) (h:Decidable False) (a b:α),@ite α False h a b=b)∧((false=true)=False)∧((true=false)=False)∧((true=true)=True) ∧
  (∀x y,(ieq x y=true)=(x=y))∧(∀x y,(ine x y=true)=(x≠y))∧(∀x y,(ilt x y=true)=(x<y))∧(∀x y,(ile x y=true)=(x≤y))∧(∀x y,(Go.Eng.beq x y=true)=(x=y)) ∧
  (∀x y,(quW x y=true)=(x=true∧y=true))∧(∀b:Bool,((!b)=true)=¬(b=true))∧(∀i n,(inb i n=true)=(0≤i∧i<n))∧(∀i n,(q6E i n=true)=(0≤i∧i≤n)) ∧
  (∀(p:Prop) (_:Decidable p),(decide p=true)=p)∧(∀(α:Type) (a b:α),(a≠b)=¬(a=b))∧(¬True)=False∧(¬False)=True:=
 ⟨fun _=>qzX,fun _=>qxx,fun _=>qxO,fun _=>rfl,fun _ _=>rfl,fun _ _=>rfl,fun _ _=>rfl,fun _ _=>rfl,fun _ _=>rfl,fun R i=>by unfold pR;cases R.run<;>rfl,fun _ _ _ _ _=>rfl,
  fun _ _ _=>rfl,fun _ _ _ _=>rfl,fun _=>rfl,fun _=>rfl,fun _=>rfl,fun _=>rfl,fun _ _ _ _=>by simp,fun _ _ _ _=>by simp,by simp,by simp,by simp,qsr,qzB,qz6,qzo,qzf,
  qy1,qxw,qAA,qzA,fun _ _=>by simp,fun _ _ _=>rfl,by simp,by simp⟩
theorem zn{R:TR}{j:Nat}{ps:List PV}(h:R.run=some (j,ps))(i:Nat):(jIs R i=true)=(j=i):=by simp[jIs,jR,h]
theorem run_bind{α β:Type}(t:Tree α)(f:α→Tree β):(t.bind f).run=t.run.bind fun a=>(f a).run:=by
 induction t with
 | leaf a=>rfl
 | br b t e iht ihe=>cases b<;>simp[Tree.bind,Tree.run,iht,ihe]
 | fail=>rfl
theorem qeT{S:List PV→TR}{n:Nat}{ps qs:List PV}(h:(S ps).run=some (0,qs)):(qhl S (n+1) ps).run=(qhl S n qs).run:=by
 simp[qhl,run_bind,h]
theorem q6v{S:List PV→TR}{n j:Nat}{ps qs:List PV}(h:(S ps).run=some (j+1,qs)):(qhl S (n+1) ps).run=some (j,qs):=by
 simp[qhl,run_bind,h,Tree.run]
def q27{α:Type}(f:Nat→Option α):Nat→Nat→Option α
 | _,0=>none
 | i,k+1=>match f i with
  | some a=>some a
  | none=>q27 f (i+1) k
theorem qon{S:List PV→TR}(st:Nat→List PV)(f:Nat→Option (Nat×List PV))(fin:Nat×List PV)(n:Nat)
  (h1:∀i,i<n→f i=none→(S (st i)).run=some (0,st (i+1))) (h2:∀i r,i<n→f i=some r→(S (st i)).run=some (r.1+1,r.2))
  (h3:(S (st n)).run=some (fin.1+1,fin.2)):∀(k i m:Nat),i+k=n→k<m→(qhl S m (st i)).run=some ((q27 f i k).getD fin)
 | 0,i,m,hi,hm=>by
  obtain⟨m,rfl⟩:∃m',m=m'+1:=⟨m-1,by omega⟩
  have:i=n:=by omega
  subst this
  rw[q6v h3];rfl
 | k+1,i,m,hi,hm=>by
  obtain⟨m,rfl⟩:∃m',m=m'+1:=⟨m-1,by omega⟩
  cases hf:f i with
  | none=>
   rw[qeT (h1 i (by omega) hf),qon st f fin n h1 h2 h3 k (i+1) m (by omega) (by omega)]
   simp[q27,hf]
  | some r=>
   rw[q6v (h2 i r (by omega) hf)]
   simp[q27,hf]
theorem qeB{S:List PV→TR}(st:Nat→List PV)(f:Nat→Option (Nat×List PV))(fin:Nat×List PV)(n:Nat)(hn:n<9223372036854775808)
  (h1:∀i,i<n→f i=none→(S (st i)).run=some (0,st (i+1))) (h2:∀i r,i<n→f i=some r→(S (st i)).run=some (r.1+1,r.2))
  (h3:(S (st n)).run=some (fin.1+1,fin.2)):(qf S (st 0)).run=some ((q27 f 0 n).getD fin):=
 qon st f fin n h1 h2 h3 n 0 qeI (by omega) (Nat.lt_trans hn (by unfold qeI;decide))
theorem q0s{S:List PV→TR}(st:Nat→List PV)(fin:Nat×List PV)(n:Nat)(hn:n<9223372036854775808)
  (h1:∀i,i<n→(S (st i)).run=some (0,st (i+1))) (h3:(S (st n)).run=some (fin.1+1,fin.2)):(qf S (st 0)).run=some fin:=by
 have h:=qeB st (fun _=>none) fin n hn (fun i hi _=>h1 i hi) (fun i r _ h=>by cases h) h3
 have e:∀k i,q27 (fun _=>(none:Option (Nat×List PV))) i k=none:=by
  intro k;induction k with
  | zero=>intro i;rfl
  | succ k ih=>intro i;simp[q27,ih]
 rw[e] at h;exact h
theorem q98{α:Type}{f:Nat→Option α}:∀{k i:Nat},q27 f i k=none→∀j,i≤j→j<i+k→f j=none
 | 0,i,_,j,h1,h2=>by omega
 | k+1,i,h,j,h1,h2=>by
  simp only[q27] at h
  cases hf:f i with
  | some a=>rw[hf] at h;cases h
  | none=>
   rw[hf] at h
   rcases Nat.eq_or_lt_of_le h1 with rfl|h1
   ·exact hf
   ·exact q98 h j h1 (by omega)
theorem qo3{α:Type}{f g:Nat→Option α}:∀{k i:Nat},(∀j,i≤j→j<i+k→f j=g j)→q27 f i k=q27 g i k
 | 0,i,_=>rfl
 | k+1,i,h=>by
  simp only[q27]
  rw[h i (by omega) (by omega),qo3 (fun j h1 h2=>h j (by omega) (by omega))]
theorem qoM{α β:Type}(g:α→β){f:Nat→Option α}:∀{k i:Nat},q27 (fun j=>(f j).map g) i k=(q27 f i k).map g
 | 0,i=>rfl
 | k+1,i=>by
  simp only[q27]
  cases f i with
  | some a=>rfl
  | none=>exact qoM g
theorem q41{i n:Nat}(h:i<n)(hn:n<9223372036854775808):qt .i64 (i:Int) 1=((i+1:Nat):Int):=by
 rw[wi (by omega)];omega
theorem qv2{α:Type}(n:Nat):∀i,q27 (fun _=>(none:Option α)) i n=none:=by
 induction n with
 | zero=>intro i;rfl
 | succ n ih=>intro i;simp[q27,ih]
def pick(p:Nat→Bool):Nat→R
 | 0=>[]
 | n+1=>if p n then q9P (pick p n) [[.i (n:Int)]] else pick p n
theorem qoy(p:Nat→Bool):∀n,(pick p n).length≤n
 | 0=>Nat.le_refl _
 | n+1=>by
  have:=qoy p n
  unfold pick;split
  ·simp[q9P];omega
  ·omega
def qmH(f:Nat→Int)(i:Nat):Option Int:=if f i=0 then none else some (f i)
theorem qwp{f:Nat→Int}{n:Nat}(h:q27 (qmH f) 0 n=none)(i:Nat)(hi:i<n):f i=0:=by
 have:=q98 h i (by omega) (by omega)
 unfold qmH at this;split at this
 ·assumption
 ·cases this
theorem qpc{f:Nat→Int}:∀{k i:Nat} {e:Int},q27 (qmH f) i k=some e→e≠0
 | 0,i,e,h=>by cases h
 | k+1,i,e,h=>by
  simp only[q27] at h
  unfold qmH at h
  by_cases h0:f i=0
  ·rw[if_pos h0] at h;exact qpc h
  ·rw[if_neg h0] at h;simp at h;omega
def qbi(e:Nat→Int)(n:Nat):Int:=(q27 (qmH e) 0 n).getD 0
theorem qrT{e:Nat→Int}{n:Nat}(h:qbi e n=0)(i:Nat)(hi:i<n):e i=0:=by
 unfold qbi at h
 cases hs:q27 (qmH e) 0 n with
 | none=>exact qwp hs i hi
 | some x=>rw[hs] at h;exact absurd h (qpc hs)
theorem qwa{e:Nat→Int}{n:Nat}(h:∀i,i<n→e i=0):qbi e n=0:=by
 unfold qbi
 rw[qo3 (g:=fun _=>none) (fun j _ hj=>by unfold qmH;rw[if_pos (h j (by omega))]),qv2];rfl
theorem qoG{S:List PV→TR}(st:Nat→List PV)(e:Nat→Int)(caps fin:List PV)(n:Nat)(hn:n<9223372036854775808)
  (h:∀i,i<n→(S (st i)).run=if e i=0 then some (0,st (i+1)) else some (2,.i (e i)::caps)) (h3:(S (st n)).run=some (1,fin)) :
  (qf S (st 0)).run=some (if qbi e n=0 then (0,fin) else (1,.i (qbi e n)::caps)):=by
 have key:=qeB st (fun i=>(qmH e i).map fun x=>(1,PV.i x::caps)) (0,fin) n hn (fun i hi hf=>by
  rw[h i hi];unfold qmH at hf;split at hf
  ·rename_i h0;rw[if_pos h0]
  ·simp at hf) (fun i r hi hf=>by
  rw[h i hi];unfold qmH at hf;split at hf
  ·simp at hf
  ·rename_i h0;simp at hf;rw[if_neg h0,←hf]) h3
 rw[key,qoM]
 unfold qbi
 cases hs:q27 (qmH e) 0 n with
 | none=>simp
 | some x=>simp[qpc hs]
theorem qfQ{l:R}{i:Nat}(h:i<l.length):(i:Int)<qL l:=by unfold qL;omega
theorem ql2(l:R):¬((l.length:Int)<qL l):=by unfold qL;omega
theorem yD(i:Nat):(0:Int)≤(i:Int):=by omega
theorem qoD(a:List U):qL [a]=1:=rfl
end Go.Eng

namespace Go.Eng
def dch(d:Nat):UInt8:=UInt8.ofNat (48+d)
def dv(c:UInt8):Nat:=c.toNat-48
def q4p(s:List UInt8):Prop:=∀c,c∈s→48≤c.toNat∧c.toNat≤57
def val(s:List UInt8):Nat:=s.foldl (fun a c=>10*a+dv c) 0
def tNf:Nat→Nat→List UInt8
 | 0,_=>[]
 | f+1,n=>if n<10 then [dch n] else tNf f (n/10)++[dch (n%10)]
def tN(n:Nat):List UInt8:=tNf (n+1) n
def tI(n:Int):List UInt8:=if n<0 then 45::tN n.natAbs else tN n.natAbs
theorem q2p{d:Nat}(h:d<10):(dch d).toNat=48+d:=by
 unfold dch;rw[UInt8.toNat_ofNat'];omega
theorem qkk{d:Nat}(h:d<10):dv (dch d)=d:=by unfold dv;rw[q2p h];omega
theorem qyy{c:UInt8}(h1:48≤c.toNat)(h2:c.toNat≤57):dch (dv c)=c:=by
 apply UInt8.toNat_inj.1
 rw[q2p (by unfold dv;omega)];unfold dv;omega
theorem qip(s:List UInt8)(c:UInt8):val (s++[c])=10*val s+dv c:=by simp[val,List.foldl_append]
theorem qm8:∀(t:List UInt8) (a:Nat),t.foldl (fun a c=>10*a+dv c) a=a*10^t.length+val t
 | [],a=>by simp[val]
 | c::t,a=>by
  have h1:=qm8 t (10*a+dv c)
  have h2:=qm8 t (10*0+dv c)
  have h3:val (c::t)=t.foldl (fun a c=>10*a+dv c) (10*0+dv c):=rfl
  rw[h3,h2,List.foldl_cons,h1,List.length_cons,Nat.pow_succ]
  grind
theorem qpS(s t:List UInt8):val (s++t)=val s*10^t.length+val t:=by
 have h:val (s++t)=t.foldl (fun a c=>10*a+dv c) (val s):=by simp[val,List.foldl_append]
 rw[h,qm8]
theorem q4L(c:UInt8)(t:List UInt8):val (c::t)=dv c*10^t.length+val t:=by
 have:=qpS [c] t
 simpa[val] using this
theorem qcx:val []=0:=rfl
theorem qs2(c:UInt8):val [c]=dv c:=by simp[val]
theorem qiu:q4p []:=fun c h=>by cases h
theorem q0E{c:UInt8}{s:List UInt8}:q4p (c::s)↔(48≤c.toNat∧c.toNat≤57)∧q4p s:=by
 unfold q4p;simp
theorem q5Z{s t:List UInt8}:q4p (s++t)↔q4p s∧q4p t:=by
 unfold q4p;simp only[List.mem_append]
 exact⟨fun h=>⟨fun c hc=>h c (.inl hc),fun c hc=>h c (.inr hc)⟩,fun h c hc=>hc.elim (h.1 c) (h.2 c)⟩
theorem quV{c:UInt8}(h:48≤c.toNat∧c.toNat≤57):dv c<10:=by unfold dv;omega
theorem q5u:∀{s:List UInt8},q4p s→val s<10^s.length
 | [],_=>by simp[val]
 | c::s,h=>by
  obtain⟨h1,h2⟩:=q0E.1 h
  have ih:=q5u h2
  have hd:=quV h1
  rw[q4L,List.length_cons,Nat.pow_succ]
  have:dv c*10^s.length≤9*10^s.length:=Nat.mul_le_mul_right _ (by omega)
  omega
theorem qps{d:Nat}(h:d<10):q4p [dch d]:=by
 intro c hc
 simp at hc;subst hc
 rw[q2p h];omega
theorem qyt:∀(f g n:Nat),n<f→n<g→tNf f n=tNf g n
 | 0,_,n,h,_=>by omega
 | _,0,n,_,h=>by omega
 | f+1,g+1,n,h1,h2=>by
  unfold tNf
  by_cases h:n<10
  ·rw[if_pos h,if_pos h]
  ·rw[if_neg h,if_neg h,qyt f g (n/10) (by omega) (by omega)]
theorem qqW{n:Nat}(h:n<10):tN n=[dch n]:=by unfold tN tNf;rw[if_pos h]
theorem qrN{n:Nat}(h:10≤n):tN n=tN (n/10)++[dch (n%10)]:=by
 have:tN n=tNf n (n/10)++[dch (n%10)]:=by
  show tNf (n+1) n=_
  rw[tNf,if_neg (by omega)]
 rw[this,qyt n (n/10+1) (n/10) (by omega) (by omega)];rfl
theorem qp4(n:Nat):q4p (tN n)∧tN n≠[]∧val (tN n)=n:=by
 induction n using Nat.strongRecOn with
 | _ n ih=>
  by_cases h:n<10
  ·rw[qqW h];exact⟨qps h,by simp,by rw[qs2,qkk h]⟩
  ·rw[qrN (by omega)]
   obtain⟨h1,h2,h3⟩:=ih (n/10) (by omega)
   refine⟨q5Z.2 ⟨h1,qps (by omega)⟩,by simp,?_⟩
   rw[qip,h3,qkk (by omega)];omega
theorem wX(n:Nat):q4p (tN n):=(qp4 n).1
theorem qlG(n:Nat):tN n≠[]:=(qp4 n).2.1
theorem q0u(n:Nat):val (tN n)=n:=(qp4 n).2.2
theorem qfD(n:Nat):0<(tN n).length:=List.length_pos_iff.2 (qlG n)
theorem q2m:∀(k n:Nat),n<10^(k+1)→(tN n).length≤k+1
 | 0,n,h=>by rw[qqW (by simpa using h)];simp
 | k+1,n,h=>by
  by_cases h10:n<10
  ·rw[qqW h10];simp
  ·rw[qrN (by omega),List.length_append]
   have:=q2m k (n/10) (by rw[Nat.pow_succ] at h;omega)
   simp;omega
theorem qqD:∀(k n:Nat),10^k≤n→k<(tN n).length
 | 0,n,_=>qfD n
 | k+1,n,h=>by
  have hp:0<10^k:=Nat.pow_pos (by omega)
  rw[Nat.pow_succ] at h
  rw[qrN (by omega),List.length_append]
  have:=qqD k (n/10) (by omega)
  simp;omega
theorem q4R{k n:Nat}(h:(tN n).length≤k):n<10^k:=by
 have:=q5u (wX n)
 rw[q0u] at this
 exact Nat.lt_of_lt_of_le this (Nat.pow_le_pow_right (by omega) h)
def qAR(s:List UInt8):Prop:=s.length=1∨s.getD 0 0≠48
theorem qtd{s:List UInt8}(hd:q4p s)(hn:s≠[])(h:s.getD 0 0≠48):10^(s.length-1)≤val s:=by
 cases s with
 | nil=>exact absurd rfl hn
 | cons c s=>
  obtain⟨h1,h2⟩:=q0E.1 hd
  simp at h
  have hc:1≤dv c:=by
   unfold dv
   have:c.toNat≠48:=fun e=>h (UInt8.toNat_inj.1 (by simpa using e))
   omega
  rw[q4L,List.length_cons,Nat.add_sub_cancel]
  have:1*10^s.length≤dv c*10^s.length:=Nat.mul_le_mul_right _ hc
  omega
theorem qyd:∀(n:Nat) {s:List UInt8},s.length=n+1→q4p s→qAR s→tN (val s)=s
 | 0,s,hl,hd,_=>by
  match s,hl with
  | [c],_=>
   have h1:=(q0E.1 hd).1
   rw[qs2,qqW (quV h1),qyy h1.1 h1.2]
 | n+1,s,hl,hd,hz=>by
  obtain⟨i,c,rfl⟩:∃i c,s=i++[c]:=⟨s.dropLast,s.getLast (by intro h;simp[h] at hl),(List.dropLast_concat_getLast _).symm⟩
  have hil:i.length=n+1:=by simpa using hl
  obtain⟨h1,h2⟩:=q5Z.1 hd
  have hc:=(q0E.1 h2).1
  have hi:i≠[]:=by intro h;simp[h] at hil
  have hz0:i.getD 0 0≠48:=by
   rcases hz with hz|hz
   ·exact absurd (by simpa using hz) hi
   ·cases i with
    | nil=>exact absurd rfl hi
    | cons a i=>simpa using hz
  have hv:1≤val i:=Nat.le_trans (Nat.one_le_pow _ _ (by omega)) (qtd h1 hi hz0)
  have hd10:=quV hc
  rw[qip,qrN (n:=10*val i+dv c) (by omega),show (10*val i+dv c)/10=val i by omega,show (10*val i+dv c)%10=dv c by omega,qyy hc.1 hc.2,qyd n hil h1 (.inr hz0)]
theorem qlW{s:List UInt8}(hd:q4p s)(hn:s≠[])(hz:qAR s):s=tN (val s):=
 (qyd (s.length-1) (by have:=List.length_pos_iff.2 hn;omega) hd hz).symm
theorem qop{m n:Nat}(h:tN m=tN n):m=n:=by rw[←q0u m,h,q0u]
theorem qvr(n:Nat):qAR (tN n):=by
 induction n using Nat.strongRecOn with
 | _ n ih=>
  by_cases h:n<10
  ·rw[qqW h];exact .inl rfl
  ·rw[qrN (by omega)]
   right
   by_cases h2:n/10<10
   ·rw[qqW h2]
    intro e
    have:(dch (n/10)).toNat=48:=by
     have e':dch (n/10)=48:=by simpa using e
     rw[e'];rfl
    rw[q2p h2] at this;omega
   ·have h3:(tN (n/10)).length≠1:=by
     have:=qqD 1 (n/10) (by omega);omega
    rcases ih (n/10) (by omega) with h4|h4
    ·exact absurd h4 h3
    ·cases hq:tN (n/10) with
     | nil=>exact absurd hq (qlG _)
     | cons a i=>rw[hq] at h4;simpa using h4
theorem qzi(t:List UInt8):slt [] t=!t.isEmpty:=by cases t<;>rfl
theorem qxK(a b:UInt8)(s t:List UInt8):slt (a::s) (b::t)=(decide (a<b)||(a==b&&slt s t)):=by
 unfold slt
 simp only[Op.bytesLess]
theorem qsL:∀{s t:List UInt8},q4p s→q4p t→s.length=t.length→((slt s t=true)=(val s<val t))
 | [],[],_,_,_=>by simp[qzi,qcx]
 | a::s,b::t,h1,h2,hl=>by
  obtain⟨ha,hs⟩:=q0E.1 h1
  obtain⟨hb,ht⟩:=q0E.1 h2
  have hl':s.length=t.length:=by simpa using hl
  have ih:=qsL hs ht hl'
  have v1:=q5u hs
  have v2:=q5u ht
  rw[qxK,q4L,q4L,hl']
  rw[hl'] at v1
  have hab:(a<b)=(dv a<dv b):=by
   unfold dv;rw[UInt8.lt_iff_toNat_lt];simp only[eq_iff_iff];omega
  have hab2:(a=b)=(dv a=dv b):=by
   unfold dv;rw[←UInt8.toNat_inj];simp only[eq_iff_iff];omega
  simp only[Bool.or_eq_true,decide_eq_true_eq,Bool.and_eq_true,beq_iff_eq,eq_iff_iff,ih,hab,hab2]
  generalize 10^t.length=p at *
  generalize dv a=x at *
  generalize dv b=y at *
  constructor
  ·rintro (h|⟨rfl,h⟩)
   ·have:=Nat.mul_le_mul_right p (show x+1≤y by omega)
    rw[Nat.add_mul] at this;omega
   ·omega
  ·intro h
   rcases Nat.lt_trichotomy x y with h3|h3|h3
   ·exact .inl h3
   ·subst h3;exact .inr ⟨rfl,by omega⟩
   ·have:=Nat.mul_le_mul_right p (show y+1≤x by omega)
    rw[Nat.add_mul] at this;omega
theorem ko{m n:Nat}(h:m≤n):(tN m).length≤(tN n).length:=by
 rcases Nat.lt_or_ge (tN n).length (tN m).length with h1|h1
 ·have h2:=q4R (Nat.le_refl (tN n).length)
  have h3:0<(tN n).length:=qfD n
  have:=q2m ((tN n).length-1) m (by rw[Nat.sub_add_cancel h3];omega)
  omega
 ·exact h1
theorem qsd(m n:Nat):((tN m).length<(tN n).length∨(tN m).length=(tN n).length∧slt (tN m) (tN n)=true)↔m<n:=by
 constructor
 ·rintro (h|⟨h1,h2⟩)
  ·rcases Nat.lt_or_ge m n with h3|h3
   ·exact h3
   ·have:=ko h3;omega
  ·rw[qsL (wX m) (wX n) h1,q0u,q0u] at h2;exact h2
 ·intro h
  have h1:=ko (Nat.le_of_lt h)
  rcases Nat.lt_or_ge (tN m).length (tN n).length with h3|h3
  ·exact .inl h3
  ·have h4:(tN m).length=(tN n).length:=by omega
   exact .inr ⟨h4,by rw[qsL (wX m) (wX n) h4,q0u,q0u];exact h⟩
theorem qt4(s:List UInt8):val (48::s)=val s:=by rw[q4L];simp[dv]
theorem qlv(n:Nat)(s:List UInt8):val (List.replicate n 48++s)=val s:=by
 induction n with
 | zero=>rfl
 | succ n ih=>rw[List.replicate_succ,List.cons_append,qt4,ih]
theorem qjo(n:Nat):q4p (List.replicate n 48):=by
 intro c hc
 rw[(List.mem_replicate.1 hc).2];decide
def rI(l:List Int):R:=l.map fun v=>[.i v]
theorem qhB(l:List Int):qL (rI l)=l.length:=by simp[qL,rI]
theorem qyD(l:List Int)(i:Int):cI (rI l) i 0=l.getD i.toNat 0:=by
 unfold cI jj rI
 simp only[List.getD_eq_getElem?_getD,List.getElem?_map]
 cases l[i.toNat]?<;>rfl
theorem quO(x v:U):qqQ [x] 0 [v]=[v]:=rfl
theorem qrm(l:List Int)(i v:Int):qbN (rI l) i 0 [.i v]=rI (l.set i.toNat v):=by
 unfold qbN rI
 apply List.ext_getElem?
 intro j
 by_cases hj:j=i.toNat
 ·subst hj
  by_cases hl:i.toNat<l.length
  ·simp[hl,List.getD_eq_getElem?_getD,quO]
  ·rw[List.getElem?_eq_none (by simp;omega),List.getElem?_eq_none (by simp;omega)]
 ·rw[List.getElem?_set_ne (Ne.symm hj),List.getElem?_map,List.getElem?_map,List.getElem?_set_ne (Ne.symm hj)]
theorem qgN(n v:Int):zK n [.i v]=rI (List.replicate n.toNat v):=by simp[zK,rI]
theorem qAm(l:List Int):qdU (rI l)=l.map fun v=>UInt8.ofNat v.toNat:=by
 unfold qdU rI
 rw[List.map_map]
 rfl
theorem qAk(l:List Int)(i:Int)(s:List UInt8):qrr (rI l) i s=rI (l.take i.toNat++s.map (fun c=>(c.toNat:Int))++l.drop (i.toNat+s.length)):=by
 unfold qrr rI
 simp[List.map_take,List.map_drop]
theorem qjO(s:List UInt8):qdU (rI (s.map fun c=>(c.toNat:Int)))=s:=by
 rw[qAm,List.map_map]
 have:((fun v:Int=>UInt8.ofNat v.toNat)∘fun c:UInt8=>(c.toNat:Int))=id:=by
  funext c;simp
 rw[this,List.map_id]
theorem qgV{s:List UInt8}{i:Nat}(h:i<s.length):sat s (i:Int)=(s[i].toNat:Int):=by
 unfold sat
 simp[List.getD_eq_getElem?_getD,h]
theorem zG(s t:List UInt8):(seq s t=true)=(s=t):=by simp[seq]
theorem qzb{x:Int}(h:48≤x∧x≤255):z8 .u8 x 48=x-48:=by
 unfold z8 IntKind.wrap
 simp[IntKind.signed,IntKind.bits];omega
theorem qou{x:Int}(h:0≤x∧x≤255):j4 .u8 x=x:=by
 unfold j4 IntKind.wrap
 simp[IntKind.signed,IntKind.bits];omega
theorem qkT(a b:Nat):q5s (a:Int) (b:Int)=((a%b:Nat):Int):=by
 unfold q5s;rw[Int.tmod_eq_emod_of_nonneg (by omega)];rfl
theorem qt9{a b:Nat}(h:a<9223372036854775808):yH .i64 (a:Int) (b:Int)=((a/b:Nat):Int):=by
 unfold yH
 rw[Int.tdiv_eq_ediv_of_nonneg (by omega)]
 have:(a:Int)/(b:Int)=((a/b:Nat):Int):=rfl
 have h2:a/b≤a:=Nat.div_le_self a b
 rw[this]
 generalize a/b=q at *
 unfold IntKind.wrap
 simp[IntKind.signed,IntKind.bits];omega
theorem jD{S:List PV→TR}(I:Nat→List PV→Prop)(Q:Nat→List PV→Prop){n:Nat}(hn:n<9223372036854775808)
  (h:∀k ps,k≤n→I k ps→(∃k' qs,k'<k∧(S ps).run=some (0,qs)∧I k' qs)∨∃j qs,(S ps).run=some (j+1,qs)∧Q j qs) {ps:List PV} (h0:I n ps):∃j qs,(qf S ps).run=some (j,qs)∧Q j qs:=by
 have key:∀m k ps,k≤n→k<m→I k ps→∃j qs,(qhl S m ps).run=some (j,qs)∧Q j qs:=by
  intro m
  induction m with
  | zero=>intro k ps _ h;omega
  | succ m ih=>
   intro k ps hk hm hI
   rcases h k ps hk hI with⟨k',qs,h1,h2,h3⟩|⟨j,qs,h1,h2⟩
   ·obtain⟨j,rs,g1,g2⟩:=ih k' qs (by omega) (by omega) h3
    exact⟨j,rs,by rw[qeT h2];exact g1,g2⟩
   ·exact⟨j,qs,q6v h1,h2⟩
 exact key qeI n ps (Nat.le_refl _) (Nat.lt_trans hn (by unfold qeI;decide)) h0
end Go.Eng

namespace Go.Eng
theorem q9S{m:Int}(h:m<0):tI m=45::tN m.natAbs:=by unfold tI;rw[if_pos h]
theorem qgC{m:Int}(h:¬m<0):tI m=tN m.natAbs:=by unfold tI;rw[if_neg h]
theorem q0w(n:Nat):tI (n:Int)=tN n:=by rw[qgC (by omega)];rfl
theorem qsv:tN 0=[48]:=rfl
theorem qf7{s:List UInt8}(hd:q4p s)(hn:s≠[]):∃c t,s=c::t∧48≤c.toNat∧c.toNat≤57:=by
 cases s with
 | nil=>exact absurd rfl hn
 | cons c t=>exact⟨c,t,rfl,(q0E.1 hd).1⟩
theorem qrk(m:Int):(tI m).length≤(tN m.natAbs).length+1:=by unfold tI;split<;>simp
theorem ql5(m:Int):0<(tI m).length:=by
 have:=qfD m.natAbs
 unfold tI;split<;>simp<;>omega
theorem qq3{m n:Int}(h:tI m=tI n):m=n:=by
 have key:∀{m n:Int},m<0→¬n<0→tI m≠tI n:=by
  intro m n h1 h2 e
  rw[q9S h1,qgC h2] at e
  obtain⟨c,t,hc,h3,h4⟩:=qf7 (wX n.natAbs) (qlG _)
  rw[hc] at e
  have:=(List.cons.inj e).1
  rw[←this] at h3
  exact absurd h3 (by decide)
 by_cases h1:m<0<;>by_cases h2:n<0
 ·rw[q9S h1,q9S h2] at h
  have:=qop (List.cons.inj h).2
  omega
 ·exact absurd h (key h1 h2)
 ·exact absurd h.symm (key h2 h1)
 ·rw[qgC h1,qgC h2] at h
  have:=qop h
  omega
theorem qt8(m:Int):(sat (tI m) 0=45)=(m<0):=by
 by_cases h:m<0
 ·rw[q9S h];simp[sat,h]
 ·rw[qgC h]
  obtain⟨c,t,hc,h3,h4⟩:=qf7 (wX m.natAbs) (qlG _)
  rw[hc]
  simp[sat,h];omega
theorem vh(m:Int):(qg [.s (tI m)]).run=some (0,[.s (tN m.natAbs)]):=by
 rw[qiV]
 have hp:=ql5 m
 have hne:¬tI m=[]:=fun h=>by rw[h] at hp;simp at hp
 have h1:(0:Int)<qw (tI m):=by unfold qw;omega
 have h2:(1:Int)≤qw (tI m):=by omega
 simp only[STD,zG,hne,h1,h2,qt8,Int.le_refl,show (0:Int)≤qw (tI m) by omega,and_self,show (0:Int)≤1 by omega]
 by_cases h:m<0
 ·rw[if_pos h,q9S h];simp[q5W,qw]
 ·rw[if_neg h,qgC h]
theorem ja(m:Int):(qm [.s (tI m)]).run=some (0,[.b (decide (m<0))]):=by
 rw[qnr]
 have hp:=ql5 m
 have h1:(0:Int)<qw (tI m):=by unfold qw;omega
 have h2:ieq (sat (tI m) 0) 45=decide (m<0):=by
  have:=qt8 m
  by_cases h:m<0<;>simp[ieq,h] at this ⊢<;>exact this
 simp only[STD,h1,h2,Int.le_refl,and_self]
theorem kG(n:Nat)(b:Bool)(hl:(tN n).length≤100000000):(qD [.s (tN n),.b b]).run=some (0,[.s (tI (if b then -(n:Int) else n))]):=by
 rw[qm2]
 have h1:qw [45]+qw (tN n)≤140737488355328:=by show (1:Int)+((tN n).length:Int)≤_;omega
 have h0:(tN n=[48])=(n=0):=by
  rw[←qsv];exact propext ⟨fun h=>qop h,fun h=>by rw[h]⟩
 simp only[STD,zG,h1,h0]
 cases b with
 | false=>simp[q0w]
 | true=>
  by_cases hn:n=0
  ·subst hn;simp[tI,qsv]
  ·have:(-(n:Int))<0:=by omega
   simp[hn,q9S this,q6K]
theorem qaF(m:Int)(hl:(tN m.natAbs).length≤100000000):(qU [.s (tI m)]).run=some (0,[.s (tI (-m))]):=by
 rw[qms]
 simp only[STD,vh,ja,kG _ _ hl]
 have e:(if ¬m<0 then -(m.natAbs:Int) else (m.natAbs:Int))=-m:=by
  by_cases h:m<0
  ·rw[if_neg (by simp[h])];omega
  ·rw[if_pos (by simp[h])];omega
 rw[e]
theorem q85{s:List UInt8}{i:Nat}(h:i<s.length):val (s.take (i+1))=10*val (s.take i)+dv s[i]:=by
 rw[List.take_add_one,List.getElem?_eq_getElem h,Option.toList_some,qip]
theorem qr6{s:List UInt8}(h:q4p s)(i:Nat):q4p (s.take i):=fun c hc=>h c (List.mem_of_mem_take hc)
theorem qvZ{s:List UInt8}(h:q4p s)(i:Nat):q4p (s.drop i):=fun c hc=>h c (List.mem_of_mem_drop hc)
theorem qeX{s:List UInt8}(h:q4p s){i:Nat}(hi:i<s.length):48≤s[i].toNat∧s[i].toNat≤57:=h _ (List.getElem_mem hi)
theorem qs7{s:List UInt8}(h:q4p s){i:Nat}(hi:i<s.length):j4 .i64 (z8 .u8 (sat s (i:Int)) 48)=(dv s[i]:Int)∧dv s[i]<10:=by
 have hd:=qeX h hi
 rw[qgV hi,qzb (by omega),qkX (by omega)]
 unfold dv;omega
theorem qg2(m:Int)(hl:(tN m.natAbs).length≤18):(yN [.s (tI m)]).run=some (0,[.i m]):=by
 rw[qm6]
 have hd:=wX m.natAbs
 have k:=q0s (S:=wZ) (fun i=>[.s (tI m),.i (val ((tN m.natAbs).take i):Int),.s (tN m.natAbs),.i (i:Int)]) (0,[.s (tI m),.i (m.natAbs:Int)]) (tN m.natAbs).length (by omega) (fun i hi=>by
  rw[qb5]
  obtain⟨e1,e2⟩:=qs7 hd hi
  have hv:=q5u (qr6 hd i)
  have hv2:10^((tN m.natAbs).take i).length≤100000000000000000:=Nat.le_trans (Nat.pow_le_pow_right (n:=10) (by omega) (show _≤17 by rw[List.length_take];omega)) (by decide)
  have hv3:=Nat.lt_of_lt_of_le hv hv2
  clear hv hv2
  have hlt:(i:Int)<qw (tN m.natAbs):=by unfold qw;omega
  have e3:qt .i64 (q0Q .i64 10 (val ((tN m.natAbs).take i):Int)) (dv (tN m.natAbs)[i]:Int)=((10*val ((tN m.natAbs).take i)+dv (tN m.natAbs)[i]:Nat):Int):=by
   rw[q8u (by omega),wi (by omega)];omega
  simp only[STD,hlt,yD,and_self,e1,q41 hi (by omega),q85 hi,e3]) (by
  rw[qb5]
  have:¬((tN m.natAbs).length:Int)<qw (tN m.natAbs):=by unfold qw;omega
  simp only[STD,this,List.take_length,q0u])
 have k':(qf wZ [.s (tI m),.i 0,.s (tN m.natAbs),.i 0]).run=_:=k
 have hm:m.natAbs<1000000000000000000:=Nat.lt_of_lt_of_le (q4R hl) (by decide)
 have hneg:m<0→z8 .i64 0 (m.natAbs:Int)=m:=fun h=>by rw[qpQ (by omega)];omega
 have hpos:¬m<0→(m.natAbs:Int)=m:=fun h=>by omega
 clear hm k hd
 simp only[STD,vh,k',ja]
 by_cases h:m<0
 ·rw[if_pos h,hneg h]
 ·rw[if_neg h,hpos h]
theorem q4P(m n:Int):(qP [.s (tI m),.s (tI n)]).run=some (0,if (tN m.natAbs).length≤18∧(tN n.natAbs).length≤18 then [.i m,.i n,.b true] else [.i 0,.i 0,.b false]):=by
 rw[qnB]
 have e:∀t:List UInt8,(18<qw t)=¬(t.length≤18):=fun t=>by unfold qw;simp only[eq_iff_iff];omega
 by_cases h1:(tN m.natAbs).length≤18
 ·by_cases h2:(tN n.natAbs).length≤18
  ·simp only[STD,vh,e,h1,h2,qg2 m h1,qg2 n h2,and_self]
  ·simp only[STD,vh,e,h1,h2,and_false]
 ·simp only[STD,vh,e,h1,false_and]
theorem qpw{d:Int}(h0:0≤d)(h:d<10):qdU [[.i (j4 .u8 (qt .i64 48 d))]]=[dch d.toNat]:=by
 rw[wi (by omega),qou (by omega)]
 show [UInt8.ofNat (48+d).toNat]=[UInt8.ofNat (48+d.toNat)]
 rw[show (48+d).toNat=48+d.toNat by omega]
theorem qwV{S:List PV→TR}(hS:∀(y0:Int) (y1:List UInt8),S [.i y0,.s y1]=(.br (ilt 9 y0) (.br (ile ((qw (qdU [[(.i (j4 .u8 (qt .i64 48 (q5s y0 10))))]]))+(qw y1)) 140737488355328) (.leaf (0,[(.i (yH .i64 y0 10)),(.s (q6K (qdU [[(.i (j4 .u8 (qt .i64 48 (q5s y0 10))))]]) y1))])) .fail) (.leaf (1,[(.i y0),(.s y1)]))))
  (n:Nat) (hn:n<9223372036854775808):∃(a:Nat) (r:List UInt8),(qf S [.i (n:Int),.s []]).run=some (0,[.i (a:Int),.s r])∧a<10∧tN n=tN a++r:=by
 have hlen:(tN n).length≤19:=q2m 18 n (by omega)
 obtain⟨j,qs,h1,h2⟩:=jD (S:=S) (fun k ps=>∃(r:List UInt8),ps=[.i (k:Int),.s r]∧tN n=tN k++r) (fun j qs=>∃(a:Nat) (r:List UInt8),j=0∧qs=[.i (a:Int),.s r]∧a<10∧tN n=tN a++r) hn (fun k ps hk ⟨r,hps,ht⟩=>by
  subst hps
  by_cases h9:k<10
  ·right
   have:¬(9:Int)<(k:Int):=by omega
   exact⟨0,_,by rw[hS];simp only[STD,this],k,r,rfl,rfl,h9,ht⟩
  ·left
   have h9':(9:Int)<(k:Int):=by omega
   have hr:q5s (k:Int) 10=((k%10:Nat):Int):=qkT k 10
   have hq:yH .i64 (k:Int) 10=((k/10:Nat):Int):=qt9 (b:=10) (by omega)
   have hd:qdU [[(.i (j4 .u8 (qt .i64 48 (q5s (k:Int) 10))))]]=[dch (k%10)]:=by
    rw[hr,qpw (by omega) (by omega)];rfl
   have hrl:r.length≤19:=by
    have:=congrArg List.length ht
    rw[List.length_append] at this;omega
   have hle:qw [dch (k%10)]+qw r≤140737488355328:=by
    show (1:Int)+(r.length:Int)≤_;omega
   refine⟨k/10,[.i ((k/10:Nat):Int),.s ([dch (k%10)]++r)],by omega,?_,_,rfl,?_⟩
   ·rw[hS];simp only[STD,h9',hd,hq,hle];rfl
   ·rw[ht,qrN (by omega),List.append_assoc]) (ps:=[.i (n:Int),.s []]) ⟨[],rfl,by simp⟩
 obtain⟨a,r,rfl,rfl,h3,h4⟩:=h2
 exact⟨a,r,h1,h3,h4⟩
theorem qwQ{a:Nat}{r:List UInt8}(ha:a<10):q6K (qdU [[(.i (j4 .u8 (qt .i64 48 (a:Int))))]]) r=tN a++r:=by
 rw[qpw (by omega) (by omega),qqW ha];rfl
theorem of_le{a:Nat}{r:List UInt8}(ha:a<10)(hr:r.length≤1000):qw (qdU [[(.i (j4 .u8 (qt .i64 48 (a:Int))))]])+qw r≤140737488355328:=by
 rw[qpw (by omega) (by omega)]
 show (1:Int)+(r.length:Int)≤_;omega
theorem qyf{x:Int}(h1:-9223372036854775808<x)(h2:x≤9223372036854775807):z8 .i64 0 x=-x:=qpQ (by omega)
theorem qzM(n:Nat)(hn:n<9223372036854775808):(ul [.i (n:Int)]).run=some (0,[.s (tN n)])∧(zP [.i (n:Int)]).run=some (0,[.s (tN n)]):=by
 obtain⟨a,r,h1,h2,h3⟩:=qwV qnf n hn
 obtain⟨a',r',h1',h2',h3'⟩:=qwV qoV n hn
 have hlen:(tN n).length≤19:=q2m 18 n (by omega)
 have hr:r.length≤1000:=by have:=congrArg List.length h3;rw[List.length_append] at this;omega
 have hr':r'.length≤1000:=by have:=congrArg List.length h3';rw[List.length_append] at this;omega
 have hneg:z8 .i64 0 (n:Int)=-(n:Int):=qyf (by omega) (by omega)
 have h0:((n:Int)=-(n:Int))=(n=0):=by simp only[eq_iff_iff];omega
 have hlt:¬(n:Int)<0:=by omega
 have hz:((n:Int)=0)=(n=0):=by simp only[eq_iff_iff];omega
 constructor
 ·rw[qqr]
  simp only[STD,hneg,h0,hz,hlt,h1,qwQ h2,of_le h2 hr,←h3]
  by_cases h:n=0<;>simp[h]
 ·rw[qlE]
  simp only[STD,hneg,h0,hz,hlt,h1',qwQ h2',of_le h2' hr',←h3']
  by_cases h:n=0<;>simp[h]
theorem q1F(n:Int)(h1:-9223372036854775808<n)(h2:n≤9223372036854775807):(zP [.i n]).run=some (0,[.s (tI n)]):=by
 by_cases h:n<0
 ·obtain⟨a,ha⟩:∃a:Nat,n=-(a:Int):=⟨n.natAbs,by omega⟩
  subst ha
  have hneg:z8 .i64 0 (-(a:Int))=(a:Int):=by rw[qyf (by omega) (by omega)];omega
  have hlen:(tN a).length≤19:=q2m 18 a (by omega)
  have ht:=qaF (a:Int) (by simp;omega)
  rw[q0w] at ht
  rw[qlE]
  have e1:¬(-(a:Int)=(a:Int)):=by omega
  simp only[STD,hneg,h,e1,(qzM a (by omega)).1,ht]
 ·obtain⟨a,rfl⟩:∃a:Nat,n=(a:Int):=⟨n.toNat,by omega⟩
  rw[(qzM a (by omega)).2,q0w]
theorem qdD(m n:Nat):(ya [.s (tN m),.s (tN n)]).run=some (0,[.b (decide (m<n))]):=by
 rw[qpT]
 have h:=qsd m n
 have e1:(qw (tN m)<qw (tN n))=((tN m).length<(tN n).length):=by unfold qw;simp only[eq_iff_iff];omega
 have e2:(qw (tN m)=qw (tN n))=((tN m).length=(tN n).length):=by unfold qw;simp only[eq_iff_iff];omega
 simp only[STD,e1,e2]
 by_cases h1:(tN m).length<(tN n).length
 ·have:m<n:=h.1 (.inl h1)
  simp[h1,this]
 ·by_cases h2:(tN m).length=(tN n).length
  ·cases hs:slt (tN m) (tN n) with
   | true=>simp[h2,h.1 (.inr ⟨h2,hs⟩)]
   | false=>
    have:¬m<n:=fun hh=>by rcases h.2 hh with h3|⟨_,h3⟩<;>simp_all
    simp[h2,this]
  ·have:¬m<n:=fun hh=>by rcases h.2 hh with h3|⟨h3,_⟩<;>omega
   simp[h1,h2,this]
end Go.Eng

namespace Go.Eng
theorem qkn(s:List UInt8)(n:Nat)(h0:0<n)(hn:n≤1000000000)(hl:s.length≤n):(j0 [.s s,.i (n:Int)]).run=some (0,[.s (List.replicate (n-s.length) 48++s)]):=by
 rw[qpV]
 have k:=q0s (S:=zt) (fun i=>[.s s,.i (n:Int),.i (i:Int),.r (rI (List.replicate i 48++List.replicate (n-i) 0))]) (0,[.s s,.i (n:Int),.r (rI (List.replicate n 48))]) n (by omega) (fun i hi=>by
  rw[qdS]
  have h1:(i:Int)<(n:Int):=by omega
  have h2:(i:Int)<qL (rI (List.replicate i 48++List.replicate (n-i) 0)):=by rw[qhB];simp;omega
  have h3:(List.replicate i (48:Int)++List.replicate (n-i) 0).set (i:Int).toNat 48=List.replicate (i+1) 48++List.replicate (n-(i+1)) 0:=by
   rw[Int.toNat_natCast,List.set_append_right _ _ (by simp),List.length_replicate,Nat.sub_self]
   rw[show n-i=(n-(i+1))+1 by omega,List.replicate_succ,List.set_cons_zero,List.replicate_succ']
   simp
  simp only[STD,h1,h2,yD,and_self,q41 hi (by omega),qrm,h3]) (by
  rw[qdS]
  simp only[STD,Int.lt_irrefl,Nat.sub_self,List.replicate_zero,List.append_nil])
 have k':(qf zt [.s s,.i (n:Int),.i 0,.r (rI (List.replicate n 0))]).run=some (0,[.s s,.i (n:Int),.r (rI (List.replicate n 48))]):=by simpa using k
 have e1:z8 .i64 (n:Int) (qw s)=((n-s.length:Nat):Int):=by
  rw[ub (by unfold qw;omega)];unfold qw;omega
 have e2:(0:Int)≤(n:Int):=by omega
 have e3:(n:Int)≤140737488355328:=by omega
 have e4:(0:Int)<qL (rI (List.replicate n 48)):=by rw[qhB,List.length_replicate];omega
 have e5:((n-s.length:Nat):Int)≤qL (rI (List.replicate n 48)):=by rw[qhB,List.length_replicate];omega
 have e6:qw s≤qrs (qL (rI (List.replicate n 48))) ((n-s.length:Nat):Int):=by rw[qhB,List.length_replicate];unfold qrs qw;omega
 have e7:qdU (rI (List.take ((n-s.length:Nat):Int).toNat (List.replicate n 48)++s.map (fun c=>(c.toNat:Int))++List.drop (((n-s.length:Nat):Int).toNat+s.length) (List.replicate n 48)))=List.replicate (n-s.length) 48++s:=by
  rw[Int.toNat_natCast,List.take_replicate,List.drop_replicate,Nat.min_eq_left (by omega),show n-(n-s.length+s.length)=0 by omega,List.replicate_zero,List.append_nil]
  have:List.replicate (n-s.length) (48:Int)=(List.replicate (n-s.length) (48:UInt8)).map fun c=>(c.toNat:Int):=by rw[List.map_replicate];rfl
  rw[this,←List.map_append,qjO]
 simp only[STD,qgN,Int.toNat_natCast,e2,e3,and_self,k',e4,e5,e1,yD,e6,qAk]
 rw[Int.toNat_natCast] at e7
 rw[e7]
theorem qa7{s:List UInt8}(hd:q4p s)(hn:s≠[])(hl:s.length≤1000000000):(ze [.s s]).run=some (0,[.s (tN (val s))]):=by
 rw[qpr]
 obtain⟨j,qs,h1,h2⟩:=jD (S:=q1y) (fun k ps=>∃t:List UInt8,ps=[.s t]∧t.length=k∧q4p t∧t≠[]∧val t=val s) (fun j qs=>j=0∧qs=[.s (tN (val s))]) (n:=s.length) (by omega) (fun k ps hk ⟨t,hps,hlk,hdt,hnt,hv⟩=>by
  subst hps
  have hp:0<t.length:=List.length_pos_iff.2 hnt
  have hs0:(0:Int)<qw t:=by unfold qw;omega
  rw[qmS]
  by_cases h1:1<t.length
  ·have hs1:(1:Int)<qw t:=by unfold qw;omega
   obtain⟨c,u,rfl⟩:∃c u,t=c::u:=by
    cases t with
    | nil=>exact absurd rfl hnt
    | cons c u=>exact⟨c,u,rfl⟩
   have hsat:sat (c::u) 0=(c.toNat:Int):=by simp[sat]
   by_cases h48:c=48
   ·left
    subst h48
    have hu:u≠[]:=by intro h;subst h;simp at h1
    refine⟨u.length,[.s u],by simp at hlk;omega,?_,u,rfl,rfl,(q0E.1 hdt).2,hu,by rw[←hv,qt4]⟩
    have hsub:q5W (48::u) 1 (qw (48::u))=u:=by simp[q5W,qw]
    have h48':(((48:UInt8).toNat:Nat):Int)=48:=rfl
    simp only[STD,hs1,hs0,hsat,h48',Int.le_refl,and_self,Int.le_of_lt hs1,Int.le_of_lt hs0,show (0:Int)≤1 by omega,hsub]
   ·right
    have hne:¬((c.toNat:Int)=48):=fun h=>h48 (UInt8.toNat_inj.1 (by show c.toNat=48;omega))
    refine⟨0,[.s (c::u)],?_,rfl,?_⟩
    ·simp only[STD,hs1,hs0,hsat,hne,Int.le_refl,and_self]
    ·rw[←hv,←qlW hdt hnt (.inr (by simpa using h48))]
  ·right
   have hs1:¬(1:Int)<qw t:=by unfold qw;omega
   refine⟨0,[.s t],?_,rfl,?_⟩
   ·simp only[STD,hs1]
   ·rw[←hv,←qlW hdt hnt (.inl (by omega))]) (ps:=[.s s]) ⟨s,rfl,rfl,hd,hn,rfl⟩
 obtain⟨rfl,rfl⟩:=h2
 simp only[STD,h1]
theorem qxG{x y:UInt8}(hx:48≤x.toNat∧x.toNat≤57)(hy:48≤y.toNat∧y.toNat≤57)(c:Nat)(hc:c≤1)(add:Bool) :
  ∃(d:UInt8) (c':Nat),(48≤d.toNat∧d.toNat≤57)∧c'≤1∧(yO [.i x.toNat,.i y.toNat,.i (c:Int),.b add]).run=some (0,[.i d.toNat,.i (c':Int)]) ∧
   (if add then dv x+dv y+c=dv d+10*c' else dv x+10*c'=dv y+c+dv d):=by
 have ex:j4 .i64 (z8 .u8 (x.toNat:Int) 48)=(dv x:Int):=by rw[qzb (by omega),qkX (by omega)];unfold dv;omega
 have ey:j4 .i64 (z8 .u8 (y.toNat:Int) 48)=(dv y:Int):=by rw[qzb (by omega),qkX (by omega)];unfold dv;omega
 have lx:=quV hx
 have ly:=quV hy
 have mk:∀v:Nat,v<10→((dch v).toNat:Int)=48+v:=fun v hv=>by rw[q2p hv];omega
 rw[qlz]
 simp only[STD,ex,ey]
 cases add with
 | true=>
  simp only[STD]
  have e1:qt .i64 (qt .i64 (dv x:Int) (dv y:Int)) (c:Int)=((dv x+dv y+c:Nat):Int):=by rw[wi (x:=(dv x:Int)) (by omega),wi (by omega)];omega
  rw[e1]
  by_cases h9:9<dv x+dv y+c
  ·have h9':(9:Int)<((dv x+dv y+c:Nat):Int):=by omega
   refine⟨dch (dv x+dv y+c-10),1,by rw[q2p (by omega)];omega,by omega,?_,by rw[qkk (by omega)];omega⟩
   rw[if_pos h9',wi (by omega),ub (by omega),qou (by omega),mk _ (by omega)]
   rw[show (48:Int)+((dv x+dv y+c:Nat):Int)-10=48+((dv x+dv y+c-10:Nat):Int) by omega];rfl
  ·have h9':¬(9:Int)<((dv x+dv y+c:Nat):Int):=by omega
   have h0:¬((dv x+dv y+c:Nat):Int)<0:=by omega
   refine⟨dch (dv x+dv y+c),0,by rw[q2p (by omega)];omega,by omega,?_,by rw[qkk (by omega)];omega⟩
   rw[if_neg h9',if_neg h0,wi (by omega),qou (by omega),mk _ (by omega)];rfl
 | false=>
  simp only[STD]
  have e1:z8 .i64 (z8 .i64 (dv x:Int) (dv y:Int)) (c:Int)=(dv x:Int)-dv y-c:=by rw[ub (x:=(dv x:Int)) (by omega),ub (by omega)]
  rw[e1]
  have h9':¬(9:Int)<(dv x:Int)-dv y-c:=by omega
  rw[if_neg h9']
  by_cases h0:(dv x:Int)-dv y-c<0
  ·refine⟨dch (dv x+10-dv y-c),1,by rw[q2p (by omega)];omega,by omega,?_,?_⟩
   ·rw[if_pos h0,wi (x:=48) (by omega),wi (by omega),qou (by omega),mk _ (by omega)]
    rw[show (48:Int)+((dv x:Int)-dv y-c)+10=48+((dv x+10-dv y-c:Nat):Int) by omega];rfl
   ·rw[qkk (by omega)];omega
  ·refine⟨dch (dv x-dv y-c),0,by rw[q2p (by omega)];omega,by omega,?_,?_⟩
   ·rw[if_neg h0,wi (by omega),qou (by omega),mk _ (by omega)]
    rw[show (48:Int)+((dv x:Int)-dv y-c)=48+((dv x-dv y-c:Nat):Int) by omega];rfl
   ·rw[qkk (by omega)];omega
theorem qwo{s:List UInt8}{k:Nat}(h:k<s.length):s.drop k=s[k]::s.drop (k+1):=(List.drop_eq_getElem_cons h)
theorem qsZ{s:List UInt8}{k:Nat}(h:k<s.length):val (s.drop k)=dv s[k]*10^(s.length-(k+1))+val (s.drop (k+1)):=by
 rw[qwo h,q4L,List.length_drop]
theorem qqR{a b:List UInt8}{n:Nat}(ha:q4p a)(hb:q4p b)(hla:a.length=n)(hlb:b.length=n)(hn:n≤100000001)(add:Bool) :
  ∃(t:List UInt8) (c:Nat),(qf jZ [.s a,.s b,.b add,.i 0,.i ((n:Int)-1),.r (rI (List.replicate n 0))]).run=some (0,[.r (rI (t.map fun c=>(c.toNat:Int)))])∧q4p t∧t.length=n ∧
   (if add then val a+val b=val t+c*10^n else val a+c*10^n=val b+val t):=by
 obtain⟨j,qs,h1,h2⟩:=jD (S:=jZ) (fun k ps=>∃(t:List UInt8) (c:Nat),ps=[.s a,.s b,.b add,.i (c:Int),.i ((k:Int)-1),.r (rI (List.replicate k 0++t.map fun c=>(c.toNat:Int)))]∧c≤1∧q4p t∧k+t.length=n ∧
   (if add then val (a.drop k)+val (b.drop k)=val t+c*10^(n-k) else val (a.drop k)+c*10^(n-k)=val (b.drop k)+val t))
  (fun j qs=>j=0∧∃(t:List UInt8) (c:Nat),qs=[.r (rI (t.map fun c=>(c.toNat:Int)))]∧q4p t∧t.length=n∧(if add then val a+val b=val t+c*10^n else val a+c*10^n=val b+val t)) (n:=n) (by omega) (fun k ps hk ⟨t,c,hps,hc,hdt,hlt,hrel⟩=>by
  subst hps
  rw[qkx]
  cases k with
  | zero=>
   right
   have:¬(0:Int)≤((0:Nat):Int)-1:=by omega
   refine⟨0,[.r (rI (t.map fun c=>(c.toNat:Int)))],?_,rfl,t,c,rfl,hdt,by omega,by simpa using hrel⟩
   simp only[STD,this,List.replicate_zero,List.nil_append]
  | succ k=>
   left
   have e0:((k+1:Nat):Int)-1=(k:Int):=by omega
   rw[e0]
   have hka:k<a.length:=by omega
   have hkb:k<b.length:=by omega
   obtain⟨d,c',hd,hc',hrun,hcol⟩:=qxG (qeX ha hka) (qeX hb hkb) c hc add
   have h3:(k:Int)<qw a:=by unfold qw;omega
   have h4:(k:Int)<qw b:=by unfold qw;omega
   have h5:(k:Int)<qL (rI (List.replicate (k+1) 0++t.map fun c=>(c.toNat:Int))):=by rw[qhB];simp;omega
   have h6:(List.replicate (k+1) (0:Int)++t.map fun c=>(c.toNat:Int)).set (k:Int).toNat (d.toNat:Int)=List.replicate k 0++(d::t).map fun c=>(c.toNat:Int):=by
    rw[Int.toNat_natCast,List.replicate_succ',List.append_assoc,List.set_append_right _ _ (by simp),List.length_replicate,Nat.sub_self];rfl
   have h7:z8 .i64 (k:Int) 1=(k:Int)-1:=ub (by omega)
   refine⟨k,[.s a,.s b,.b add,.i (c':Int),.i ((k:Int)-1),.r (rI (List.replicate k 0++(d::t).map fun c=>(c.toNat:Int)))],by omega,?_,d::t,c',rfl,hc',q0E.2 ⟨hd,hdt⟩,by simp;omega,?_⟩
   ·simp only[STD,yD,h3,h4,h5,and_self,qgV hka,qgV hkb,hrun,qrm,h6,h7]
   ·rw[qsZ hka,qsZ hkb,q4L,hla,hlb,show t.length=n-(k+1) by omega,show n-k=(n-(k+1))+1 by omega,Nat.pow_succ]
    generalize 10^(n-(k+1))=p at *
    cases add with
    | true=>
     simp only[↓reduceIte] at hrel hcol ⊢
     have:=congrArg (·*p) hcol
     simp only[Nat.add_mul] at this
     grind
    | false=>
     simp only[Bool.false_eq_true,↓reduceIte] at hrel hcol ⊢
     have:=congrArg (·*p) hcol
     simp only[Nat.add_mul] at this
     grind) (ps:=[.s a,.s b,.b add,.i 0,.i ((n:Int)-1),.r (rI (List.replicate n 0))]) ⟨[],0,by simp,by omega,qiu,by simp,by
    rw[List.drop_eq_nil_of_le (by omega),List.drop_eq_nil_of_le (by omega)];cases add<;>simp[qcx]⟩
 obtain⟨rfl,t,c,rfl,h3,h4,h5⟩:=h2
 exact⟨t,c,h1,h3,h4,h5⟩
theorem qww{m n t c p:Nat}{add:Bool}(hm:m<p)(hn:n<p)(ht:t<p*10)(h4:if add then m+n=t+c*(p*10) else m+c*(p*10)=n+t)(hle:add=false→n≤m):t=if add then m+n else m-n:=by
 have hc0:c=0:=by
  rcases Nat.eq_zero_or_pos c with h|h
  ·exact h
  ·exfalso
   have h5:1*(p*10)≤c*(p*10):=Nat.mul_le_mul_right (p*10) h
   cases add with
   | true=>simp only[↓reduceIte] at h4;omega
   | false=>simp only[Bool.false_eq_true,↓reduceIte] at h4;have:=hle rfl;omega
 subst hc0
 cases add with
 | true=>simp only[↓reduceIte] at h4 ⊢;omega
 | false=>simp only[Bool.false_eq_true,↓reduceIte] at h4 ⊢;omega
theorem qpF(a b:Nat):q8m (a:Int) (b:Int)=((max a b:Nat):Int):=by unfold q8m;split<;>omega
theorem q7v(m n:Nat)(add:Bool)(hm:(tN m).length≤100000000)(hn:(tN n).length≤100000000)(hle:add=false→n≤m) :
  (zD [.s (tN m),.s (tN n),.b add]).run=some (0,[.s (tN (if add then m+n else m-n))]):=by
 rw[qnA]
 obtain⟨N,hN⟩:∃N,N=max (tN m).length (tN n).length+1:=⟨_,rfl⟩
 have l1:(tN m).length≤N-1:=by omega
 have l2:(tN n).length≤N-1:=by omega
 have l3:N=N-1+1:=by omega
 have p1:10^(tN m).length≤10^(N-1):=Nat.pow_le_pow_right (Nat.succ_pos 9) l1
 have p2:10^(tN n).length≤10^(N-1):=Nat.pow_le_pow_right (Nat.succ_pos 9) l2
 have p3:10^N=10^(N-1)*10:=(congrArg (10^·) l3).trans (Nat.pow_succ (n:=10) (m:=N-1))
 have e0:qt .i64 (q8m (qw (tN m)) (qw (tN n))) 1=(N:Int):=by
  unfold qw;rw[qpF,wi (by omega)];omega
 have e1:z8 .i64 (N:Int) 1=(N:Int)-1:=ub (by omega)
 have e2:(0:Int)≤(N:Int)∧(N:Int)≤140737488355328:=by omega
 have wa:=qkn (tN m) N (by omega) (by omega) (by omega)
 have wb:=qkn (tN n) N (by omega) (by omega) (by omega)
 have hda:q4p (List.replicate (N-(tN m).length) 48++tN m):=q5Z.2 ⟨qjo _,wX _⟩
 have hdb:q4p (List.replicate (N-(tN n).length) 48++tN n):=q5Z.2 ⟨qjo _,wX _⟩
 obtain⟨t,c,h1,h2,h3,h4⟩:=qqR (n:=N) hda hdb (by simp;omega) (by simp;omega) (by omega) add
 rw[qlv,qlv,q0u,q0u] at h4
 have ht:t≠[]:=by intro h;subst h;simp at h3;omega
 have hb:=qa7 h2 ht (by omega)
 have e3:zK (N:Int) [.i 0]=rI (List.replicate N 0):=by rw[qgN];rfl
 have hvm:=q5u (wX m)
 have hvn:=q5u (wX n)
 have hvt:=q5u h2
 rw[q0u] at hvm hvn
 rw[h3] at hvt
 rw[p3] at h4 hvt
 have q1:=Nat.lt_of_lt_of_le hvm p1
 have q2:=Nat.lt_of_lt_of_le hvn p2
 clear hvm hvn p1 p2 p3
 have hval:val t=if add then m+n else m-n:=qww q1 q2 hvt h4 hle
 rw[hval] at hb
 simp only[STD,e0,wa,wb,e1,e2,and_self,e3,h1,qjO,hb]
theorem qso(m n:Nat):(tN (m+n)).length≤max (tN m).length (tN n).length+1:=by
 have h1:=q5u (wX m)
 have h2:=q5u (wX n)
 rw[q0u] at h1 h2
 have p1:10^(tN m).length≤10^(max (tN m).length (tN n).length):=Nat.pow_le_pow_right (by omega) (by omega)
 have p2:10^(tN n).length≤10^(max (tN m).length (tN n).length):=Nat.pow_le_pow_right (by omega) (by omega)
 exact q2m _ _ (by rw[Nat.pow_succ];omega)
theorem qlL(m n:Nat):(tN (m*n)).length≤(tN m).length+(tN n).length:=by
 have h1:=q5u (wX m)
 have h2:=q5u (wX n)
 rw[q0u] at h1 h2
 have h3:=qfD m
 have h4:=qfD n
 have:m*n<10^((tN m).length+(tN n).length):=by
  rw[Nat.pow_add]
  exact Nat.mul_lt_mul'' h1 h2
 have:=q2m ((tN m).length+(tN n).length-1) (m*n) (by rwa [show (tN m).length+(tN n).length-1+1=(tN m).length+(tN n).length by omega])
 omega
def nl(m:Int):Nat:=(tN m.natAbs).length
theorem ql4(m:Int):0<nl m:=qfD _
theorem qmW(m:Int):nl (-m)=nl m:=by unfold nl;rw[Int.natAbs_neg]
theorem qnR(m n:Int):nl (m+n)≤max (nl m) (nl n)+1:=by
 unfold nl
 exact Nat.le_trans (ko (Int.natAbs_add_le m n)) (qso _ _)
theorem q1V(m n:Int):nl (m*n)≤nl m+nl n:=by
 unfold nl;rw[Int.natAbs_mul];exact qlL _ _
theorem qAo{m:Int}{k:Nat}(h:nl m≤k):m.natAbs<10^k:=q4R h
theorem qkg(m n:Int)(hm:nl m≤100000000-1)(hn:nl n≤100000000-1):(yL [.s (tI m),.s (tI n)]).run=some (0,[.s (tI (m+n))]):=by
 rw[qoO]
 have hm':(tN m.natAbs).length≤100000000-1:=hm
 have hn':(tN n.natAbs).length≤100000000-1:=hn
 have lt:=qnR m n
 by_cases hb:(tN m.natAbs).length≤18∧(tN n.natAbs).length≤18
 ·have b1:m.natAbs<1000000000000000000:=Nat.lt_of_lt_of_le (q4R hb.1) (by decide)
  have b2:n.natAbs<1000000000000000000:=Nat.lt_of_lt_of_le (q4R hb.2) (by decide)
  have e1:qt .i64 m n=m+n:=wi (by omega)
  have e2:=q1F (m+n) (by omega) (by omega)
  clear b1 b2
  have hbr:=q4P m n
  rw[if_pos hb] at hbr
  simp only[STD,hbr,e1,e2]
 ·have hbr:=q4P m n
  rw[if_neg hb] at hbr
  have hP:=q7v m.natAbs n.natAbs true (by omega) (by omega) (fun h=>by cases h)
  simp only[↓reduceIte] at hP
  simp only[STD,hbr,vh,ja,qdD,decide_eq_decide,hP]
  have la:=qso m.natAbs n.natAbs
  by_cases hs:(m<0)=(n<0)
  ·have hs':(m<0↔n<0):=by rw[hs]
   rw[if_pos hs']
   simp only[kG _ _ (show (tN (m.natAbs+n.natAbs)).length≤100000000 by omega),STD]
   have e:(if m<0 then -((m.natAbs+n.natAbs:Nat):Int) else ((m.natAbs+n.natAbs:Nat):Int))=m+n:=by
    by_cases h:m<0
    ·rw[if_pos h];have:=hs'.1 h;omega
    ·rw[if_neg h];have:¬n<0:=fun q=>h (hs'.2 q);omega
   rw[e]
  ·have hs':¬(m<0↔n<0):=fun h=>hs (propext h)
   rw[if_neg hs']
   by_cases hlt:m.natAbs<n.natAbs
   ·have hP2:=q7v n.natAbs m.natAbs false (by omega) (by omega) (fun _=>by omega)
    simp only[Bool.false_eq_true,↓reduceIte] at hP2
    have ls:(tN (n.natAbs-m.natAbs)).length≤100000000:=Nat.le_trans (ko (Nat.sub_le _ _)) (by omega)
    simp only[STD,hlt,hP2,kG _ _ ls]
    have e:(if n<0 then -((n.natAbs-m.natAbs:Nat):Int) else ((n.natAbs-m.natAbs:Nat):Int))=m+n:=by
     by_cases h:n<0
     ·rw[if_pos h];have:¬m<0:=fun q=>hs' ⟨fun _=>h,fun _=>q⟩;omega
     ·rw[if_neg h];have:m<0:=by
       rcases Decidable.em (m<0) with q|q
       ·exact q
       ·exact absurd ⟨fun x=>absurd x q,fun x=>absurd x h⟩ hs'
      omega
    rw[e]
   ·have hP2:=q7v m.natAbs n.natAbs false (by omega) (by omega) (fun _=>by omega)
    simp only[Bool.false_eq_true,↓reduceIte] at hP2
    have ls:(tN (m.natAbs-n.natAbs)).length≤100000000:=Nat.le_trans (ko (Nat.sub_le _ _)) (by omega)
    simp only[STD,hlt,hP2,kG _ _ ls]
    have e:(if m<0 then -((m.natAbs-n.natAbs:Nat):Int) else ((m.natAbs-n.natAbs:Nat):Int))=m+n:=by
     by_cases h:m<0
     ·rw[if_pos h];have:¬n<0:=fun q=>hs' ⟨fun _=>q,fun _=>h⟩;omega
     ·rw[if_neg h];have:n<0:=by
       rcases Decidable.em (n<0) with q|q
       ·exact q
       ·exact absurd ⟨fun x=>absurd x h,fun x=>absurd x q⟩ hs'
      omega
    rw[e]
theorem qce(m n:Int)(hm:nl m≤100000000-1)(hn:nl n≤100000000-1):(wU [.s (tI m),.s (tI n)]).run=some (0,[.s (tI (m-n))]):=by
 rw[qnv]
 have ht:=qaF n (by have:(tN n.natAbs).length≤100000000-1:=hn;omega)
 have hp:=qkg m (-n) hm (by rw[qmW];exact hn)
 rw[←Int.sub_eq_add_neg] at hp
 simp only[STD,ht,hp]
def sgn(n:Int):Int:=if n<0 then -1 else if n=0 then 0 else 1
theorem qiX(m n:Int)(hm:nl m≤100000000-1)(hn:nl n≤100000000-1):(jM [.s (tI m),.s (tI n)]).run=some (0,[.i (sgn (m-n))]):=by
 rw[qn3]
 have h0:(tI (m-n)=[48])=(m-n=0):=by
  have:tI 0=[48]:=rfl
  rw[←this];exact propext ⟨fun h=>qq3 h,fun h=>by rw[h]⟩
 simp only[STD,qce m n hm hn,zG,h0,ja]
 unfold sgn
 by_cases h1:m-n=0
 ·rw[if_pos h1,if_neg (by omega),if_pos h1]
 ·rw[if_neg h1]
  by_cases h2:m-n<0
  ·rw[if_pos h2,if_pos h2]
  ·rw[if_neg h2,if_neg h2,if_neg h1]
end Go.Eng

namespace Go.Eng
def wv(l:List Int):Int:=l.foldl (fun a x=>10*a+x) 0
theorem qpt:∀(t:List Int) (a:Int),t.foldl (fun a x=>10*a+x) a=a*10^t.length+wv t
 | [],a=>by simp[wv]
 | c::t,a=>by
  have h1:=qpt t (10*a+c)
  have h2:=qpt t (10*0+c)
  have h3:wv (c::t)=t.foldl (fun a x=>10*a+x) (10*0+c):=rfl
  rw[h3,h2,List.foldl_cons,h1,List.length_cons,Int.pow_succ]
  grind
theorem qjr(c:Int)(t:List Int):wv (c::t)=c*10^t.length+wv t:=by
 have h3:wv (c::t)=t.foldl (fun a x=>10*a+x) (10*0+c):=rfl
 rw[h3,qpt];grind
theorem qAb:wv []=0:=rfl
theorem qxz(n:Nat):wv (List.replicate n 0)=0:=by
 induction n with
 | zero=>rfl
 | succ n ih=>rw[List.replicate_succ,qjr,ih];simp
theorem qyi:∀(l:List Int) (j:Nat) (hj:j<l.length) (y:Int),wv (l.set j y)=wv l+(y-l[j])*10^(l.length-(j+1))
 | [],j,hj,y=>by simp at hj
 | c::t,0,hj,y=>by
  rw[List.set_cons_zero,qjr,qjr]
  simp only[List.getElem_cons_zero,List.length_cons,Nat.add_sub_cancel,Nat.zero_add]
  grind
 | c::t,j+1,hj,y=>by
  have hj':j<t.length:=by simpa using hj
  rw[List.set_cons_succ,qjr,qjr,qyi t j hj' y,List.length_set]
  simp only[List.getElem_cons_succ,List.length_cons]
  rw[show t.length+1-(j+1+1)=t.length-(j+1) by omega]
  grind
theorem qz7{l:List Int}{k:Nat}(h:k<l.length):wv (l.drop k)=l[k]*10^(l.length-(k+1))+wv (l.drop (k+1)):=by
 rw[List.drop_eq_getElem_cons h,qjr,List.length_drop]
theorem jV{l:List Int}{j:Nat}(h:j<l.length):l.getD j 0=l[j]:=by simp[List.getD_eq_getElem?_getD,h]
theorem qlI{n i:Nat}(h:i<n):(10:Int)^(n-i)=10^(n-(i+1))*10:=by
 rw[←Int.pow_succ];congr 1;omega
theorem quZ{V A Q B:Int}:V*(Q*10)*B+A*B*Q=(10*V+A)*Q*B:=by grind
theorem qz2{P Q A V y:Int}:A*(10*V+y)*P*Q=A*V*(P*10)*Q+A*y*(P*Q):=by grind
theorem qoz{l:List Int}{j:Nat}{y B:Int}(h:∀x,x∈l→0≤x∧x≤B)(hy:0≤y∧y≤B):∀x,x∈l.set j y→0≤x∧x≤B:=by
 intro x hx
 rcases List.mem_or_eq_of_mem_set hx with h1|h1
 ·exact h x h1
 ·rw[h1];exact hy
theorem quw{a b:List UInt8}(ha:q4p a)(hb:q4p b){i:Nat}(hi:i<a.length)(hla:a.length≤1000000)(hlb:b.length≤1000000){cols:List Int}(hc:cols.length=a.length+b.length){C:Nat}(hC:C≤1000000000000)
  (hB:∀x,x∈cols→0≤x∧x≤81*(C:Int)) :
  ∃cols':List Int,(qf wN [.s a,.s b,.i (i:Int),.i 0,.r (rI cols)]).run=some (0,[.s a,.s b,.i (i:Int),.r (rI cols')])∧cols'.length=a.length+b.length ∧
   (∀x,x∈cols'→0≤x∧x≤81*((C+b.length:Nat):Int))∧wv cols'=wv cols+(dv a[i]:Int)*(val b:Int)*10^(a.length-(i+1)):=by
 obtain⟨j,qs,h1,h2⟩:=jD (S:=wN) (fun K ps=>∃(k:Nat) (cs:List Int),K+k=b.length∧ps=[.s a,.s b,.i (i:Int),.i (k:Int),.r (rI cs)]∧cs.length=a.length+b.length ∧
   (∀x,x∈cs→0≤x∧x≤81*((C+k:Nat):Int))∧wv cs=wv cols+(dv a[i]:Int)*(val (b.take k):Int)*10^(b.length-k)*10^(a.length-(i+1)))
  (fun j qs=>j=0∧∃cs:List Int,qs=[.s a,.s b,.i (i:Int),.r (rI cs)]∧cs.length=a.length+b.length ∧
   (∀x,x∈cs→0≤x∧x≤81*((C+b.length:Nat):Int))∧wv cs=wv cols+(dv a[i]:Int)*(val b:Int)*10^(a.length-(i+1))) (n:=b.length) (by omega) (fun K ps hK ⟨k,cs,hkK,hps,hlen,hbd,hw⟩=>by
  subst hps
  rw[qhm]
  cases K with
  | zero=>
   right
   obtain rfl:k=b.length:=by omega
   have:¬(b.length:Int)<qw b:=by unfold qw;omega
   refine⟨0,[.s a,.s b,.i (i:Int),.r (rI cs)],?_,rfl,cs,rfl,hlen,hbd,?_⟩
   ·simp only[STD,this]
   ·rw[hw,List.take_length,Nat.sub_self];grind
  | succ K=>
   left
   have hk:k<b.length:=by omega
   have g1:(k:Int)<qw b:=by unfold qw;omega
   have g2:(i:Int)<qw a:=by unfold qw;omega
   have e1:qt .i64 (qt .i64 (i:Int) (k:Int)) 1=((i+k+1:Nat):Int):=by
    rw[wi (x:=(i:Int)) (by omega),wi (by omega)];omega
   have hj:i+k+1<cs.length:=by omega
   have g3:((i+k+1:Nat):Int)<qL (rI cs):=by rw[qhB];omega
   obtain⟨da,la⟩:=qs7 ha hi
   obtain⟨db,lb⟩:=qs7 hb hk
   have hx:=hbd _ (List.getElem_mem hj)
   have hmul:dv a[i]*dv b[k]≤9*9:=Nat.mul_le_mul (by omega) (by omega)
   have e2:q0Q .i64 (dv a[i]:Int) (dv b[k]:Int)=((dv a[i]*dv b[k]:Nat):Int):=by
    rw[q8u (by rw[←Int.natCast_mul];omega)];simp
   have e3:qt .i64 cs[i+k+1] ((dv a[i]*dv b[k]:Nat):Int)=cs[i+k+1]+((dv a[i]*dv b[k]:Nat):Int):=wi (by omega)
   have e4:=q41 hk (by omega)
   refine⟨K,[.s a,.s b,.i (i:Int),.i ((k+1:Nat):Int),.r (rI (cs.set (i+k+1) (cs[i+k+1]+((dv a[i]*dv b[k]:Nat):Int))))],by omega,?_,k+1,_,by omega,rfl,by simpa using hlen,?_,?_⟩
   ·simp only[STD,g1,g2,yD,and_self,e1,g3,da,db,e2,qyD,Int.toNat_natCast,jV hj,e3,e4,qrm]
   ·refine qoz (fun x hx=>?_) ?_
    ·have:=hbd x hx;omega
    ·omega
   ·rw[qyi _ _ hj,hw,q85 hk,hlen]
    have p1:=qlI hk
    have p2:(10:Int)^(a.length+b.length-(i+k+1+1))=10^(b.length-(k+1))*10^(a.length-(i+1)):=by
     rw[←Int.pow_add];congr 1;omega
    rw[p1,p2]
    generalize (10:Int)^(b.length-(k+1))=P
    generalize (10:Int)^(a.length-(i+1))=Q
    simp only[Int.natCast_add,Int.natCast_mul]
    generalize (dv a[i]:Int)=A
    generalize (dv b[k]:Int)=y
    generalize (val (b.take k):Int)=V
    generalize cs[i+k+1]=c
    have:=qz2 (P:=P) (Q:=Q) (A:=A) (V:=V) (y:=y)
    grind) (ps:=[.s a,.s b,.i (i:Int),.i 0,.r (rI cols)]) ⟨0,cols,by omega,rfl,hc,by simpa using hB,by simp[qcx]⟩
 obtain⟨rfl,cs,rfl,h3,h4,h5⟩:=h2
 exact⟨cs,h1,h3,h4,h5⟩
theorem qud{a b:List UInt8}(ha:q4p a)(hb:q4p b)(hla:a.length≤1000000)(hlb:b.length≤1000000) :
  ∃cols:List Int,(qf zb [.s a,.s b,.i 0,.r (rI (List.replicate (a.length+b.length) 0))]).run=some (0,[.r (rI cols)])∧cols.length=a.length+b.length ∧
   (∀x,x∈cols→0≤x∧x≤81000000000000)∧wv cols=(val a:Int)*(val b:Int):=by
 have hsq:∀i,i≤a.length→i*b.length≤1000000000000:=fun i hi=>by
  have:=Nat.mul_le_mul (show i≤1000000 by omega) hlb;omega
 obtain⟨j,qs,h1,h2⟩:=jD (S:=zb) (fun K ps=>∃(i:Nat) (cs:List Int),K+i=a.length∧ps=[.s a,.s b,.i (i:Int),.r (rI cs)]∧cs.length=a.length+b.length ∧
   (∀x,x∈cs→0≤x∧x≤81*((i*b.length:Nat):Int))∧wv cs=(val (a.take i):Int)*10^(a.length-i)*(val b:Int))
  (fun j qs=>j=0∧∃cs:List Int,qs=[.r (rI cs)]∧cs.length=a.length+b.length∧(∀x,x∈cs→0≤x∧x≤81000000000000)∧wv cs=(val a:Int)*(val b:Int)) (n:=a.length) (by omega) (fun K ps hK ⟨i,cs,hiK,hps,hlen,hbd,hw⟩=>by
  subst hps
  rw[qhJ]
  have hs:=hsq i (by omega)
  cases K with
  | zero=>
   right
   obtain rfl:i=a.length:=by omega
   have:¬(a.length:Int)<qw a:=by unfold qw;omega
   refine⟨0,[.r (rI cs)],?_,rfl,cs,rfl,hlen,fun x hx=>?_,?_⟩
   ·simp only[STD,this]
   ·have:=hbd x hx;omega
   ·rw[hw,List.take_length,Nat.sub_self];grind
  | succ K=>
   left
   have hi:i<a.length:=by omega
   have g1:(i:Int)<qw a:=by unfold qw;omega
   obtain⟨cs',q1,q2,q3,q4⟩:=quw ha hb hi hla hlb hlen (C:=i*b.length) hs hbd
   have e4:=q41 hi (by omega)
   refine⟨K,[.s a,.s b,.i ((i+1:Nat):Int),.r (rI cs')],by omega,?_,i+1,cs',by omega,rfl,q2,?_,?_⟩
   ·simp only[STD,g1,q1,e4]
   ·rw[Nat.add_mul,Nat.one_mul];exact q3
   ·rw[q4,hw,q85 hi]
    rw[qlI hi,Int.natCast_add,Int.natCast_mul]
    exact quZ) (ps:=[.s a,.s b,.i 0,.r (rI (List.replicate (a.length+b.length) 0))]) ⟨0,List.replicate (a.length+b.length) 0,by omega,rfl,by simp,fun x hx=>by rw[(List.mem_replicate.1 hx).2];omega,by rw[qxz];simp[qcx]⟩
 obtain⟨rfl,cs,rfl,h3,h4,h5⟩:=h2
 exact⟨cs,h1,h3,h4,h5⟩
theorem quv{cols:List Int}{N:Nat}(hl:cols.length=N)(hN:N≤2000000)(hB:∀x,x∈cols→0≤x∧x≤81000000000000) :
  ∃(t:List UInt8) (c:Nat),(qf ve [.i 0,.i ((N:Int)-1),.r (rI cols),.r (rI (List.replicate N 0))]).run=some (0,[.r (rI (t.map fun c=>(c.toNat:Int)))])∧q4p t∧t.length=N∧wv cols=(val t:Int)+(c:Int)*10^N:=by
 obtain⟨j,qs,h1,h2⟩:=jD (S:=ve) (fun K ps=>∃(t:List UInt8) (c:Nat),ps=[.i (c:Int),.i ((K:Int)-1),.r (rI cols),.r (rI (List.replicate K 0++t.map fun c=>(c.toNat:Int)))]∧c≤81000000000000∧q4p t∧K+t.length=N ∧
   wv (cols.drop K)=(val t:Int)+(c:Int)*10^(N-K))
  (fun j qs=>j=0∧∃(t:List UInt8) (c:Nat),qs=[.r (rI (t.map fun c=>(c.toNat:Int)))]∧q4p t∧t.length=N∧wv cols=(val t:Int)+(c:Int)*10^N) (n:=N) (by omega) (fun K ps hK ⟨t,c,hps,hc,hdt,hlt,hrel⟩=>by
  subst hps
  rw[qgk]
  cases K with
  | zero=>
   right
   have:¬(0:Int)≤((0:Nat):Int)-1:=by omega
   refine⟨0,[.r (rI (t.map fun c=>(c.toNat:Int)))],?_,rfl,t,c,rfl,hdt,by omega,by simpa using hrel⟩
   simp only[STD,this,List.replicate_zero,List.nil_append]
  | succ K=>
   left
   have e0:((K+1:Nat):Int)-1=(K:Int):=by omega
   rw[e0]
   have hk:K<cols.length:=by omega
   obtain⟨x,hx⟩:∃x:Nat,cols[K]=(x:Int)∧x≤81000000000000:=by
    have:=hB _ (List.getElem_mem hk)
    exact⟨cols[K].toNat,by omega,by omega⟩
   have e1:qt .i64 (c:Int) (x:Int)=((c+x:Nat):Int):=by rw[wi (by omega)];omega
   have e2:yH .i64 ((c+x:Nat):Int) 10=(((c+x)/10:Nat):Int):=qt9 (b:=10) (by omega)
   have e3:q5s ((c+x:Nat):Int) 10=(((c+x)%10:Nat):Int):=qkT _ 10
   have e4:j4 .u8 (qt .i64 48 (((c+x)%10:Nat):Int))=((dch ((c+x)%10)).toNat:Int):=by
    rw[wi (by omega),qou (by omega),q2p (by omega)];omega
   have h3:(K:Int)<qL (rI cols):=by rw[qhB];omega
   have h5:(K:Int)<qL (rI (List.replicate (K+1) 0++t.map fun c=>(c.toNat:Int))):=by rw[qhB];simp;omega
   have h6:(List.replicate (K+1) (0:Int)++t.map fun c=>(c.toNat:Int)).set K ((dch ((c+x)%10)).toNat:Int)=List.replicate K 0++(dch ((c+x)%10)::t).map fun c=>(c.toNat:Int):=by
    rw[List.replicate_succ',List.append_assoc,List.set_append_right _ _ (by simp),List.length_replicate,Nat.sub_self];rfl
   have h7:z8 .i64 (K:Int) 1=(K:Int)-1:=ub (by omega)
   refine⟨K,[.i (((c+x)/10:Nat):Int),.i ((K:Int)-1),.r (rI cols),.r (rI (List.replicate K 0++(dch ((c+x)%10)::t).map fun c=>(c.toNat:Int)))],by omega,?_,_,_,rfl,by omega,q0E.2 ⟨by rw[q2p (by omega)];omega,hdt⟩,by simp;omega,?_⟩
   ·simp only[STD,yD,h3,h5,and_self,qyD,Int.toNat_natCast,jV hk,hx.1,e1,e2,e3,e4,qrm,h6,h7]
   ·rw[qz7 hk,hrel,q4L,hx.1,hl,qkk (by omega),show t.length=N-(K+1) by omega]
    rw[qlI (show K<N by omega)]
    have e:((c+x:Nat):Int)=10*(((c+x)/10:Nat):Int)+(((c+x)%10:Nat):Int):=by omega
    simp only[Int.natCast_add,Int.natCast_mul,Int.natCast_pow] at e ⊢
    generalize hP:(10:Int)^(N-(K+1))=P at *
    generalize (((c+x)/10:Nat):Int)=q at *
    generalize (((c+x)%10:Nat):Int)=r at *
    have:(c:Int)=10*q+r-x:=by omega
    rw[this];grind) (ps:=[.i 0,.i ((N:Int)-1),.r (rI cols),.r (rI (List.replicate N 0))]) ⟨[],0,by simp,by omega,qiu,by simp,by
    rw[List.drop_eq_nil_of_le (by omega)];simp[qcx,qAb]⟩
 obtain⟨rfl,t,c,rfl,h3,h4,h5⟩:=h2
 exact⟨t,c,h1,h3,h4,h5⟩
theorem qmb(m n:Nat)(hm:(tN m).length≤1000000)(hn:(tN n).length≤1000000):(vE [.s (tN m),.s (tN n)]).run=some (0,[.s (tN (m*n))]):=by
 rw[qkC]
 obtain⟨cols,c1,c2,c3,c4⟩:=qud (wX m) (wX n) hm hn
 obtain⟨N,hN⟩:∃N,N=(tN m).length+(tN n).length:=⟨_,rfl⟩
 have hp:=qfD m
 rw[←hN] at c1 c2
 obtain⟨t,c,t1,t2,t3,t4⟩:=quv c2 (by omega) c3
 have ht:t≠[]:=by intro h;subst h;simp at t3;omega
 have hb:=qa7 t2 ht (by omega)
 have e0:qt .i64 (qw (tN m)) (qw (tN n))=(N:Int):=by unfold qw;rw[wi (by omega)];omega
 have e1:(0:Int)≤(N:Int)∧(N:Int)≤17592186044416:=by omega
 have e1':(0:Int)≤(N:Int)∧(N:Int)≤140737488355328:=by omega
 have e2:zK (N:Int) [.i 0]=rI (List.replicate N 0):=by rw[qgN];rfl
 have e3:qL (rI cols)=(N:Int):=by rw[qhB,c2]
 have e4:z8 .i64 (N:Int) 1=(N:Int)-1:=ub (by omega)
 have hval:val t=m*n:=by
  have v1:=q5u (wX m)
  have v2:=q5u (wX n)
  have v3:=q5u t2
  rw[t3] at v3
  rw[c4,q0u,q0u] at t4
  rw[q0u] at v1 v2
  have v4:m*n<10^N:=by rw[hN,Nat.pow_add];exact Nat.mul_lt_mul'' v1 v2
  have t5:m*n=val t+c*10^N:=by
   have:((m*n:Nat):Int)=((val t+c*10^N:Nat):Int):=by simpa using t4
   omega
  clear t4 c4 v1 v2
  generalize 10^N=P at *
  rcases Nat.eq_zero_or_pos c with h|h
  ·subst h;omega
  ·have:=Nat.mul_le_mul_right P h;omega
 rw[hval] at hb
 simp only[STD,e0,e1,e1',and_self,e2,c1,e3,e4,t1,qjO,hb]
theorem qi0(m n:Int)(hm:nl m≤1000000)(hn:nl n≤1000000):(zz [.s (tI m),.s (tI n)]).run=some (0,[.s (tI (m*n))]):=by
 rw[qnI]
 have hm':(tN m.natAbs).length≤1000000:=hm
 have hn':(tN n.natAbs).length≤1000000:=hn
 have hbr:=q4P m n
 have hP:=qmb m.natAbs n.natAbs hm' hn'
 have lm:=qlL m.natAbs n.natAbs
 have hS:=fun b=>kG (m.natAbs*n.natAbs) b (by omega)
 have tm:=qrk m
 have tn:=qrk n
 have e0:qt .i64 (qw (tI m)) (qw (tI n))=(((tI m).length+(tI n).length:Nat):Int):=by unfold qw;rw[wi (by omega)];omega
 have sg:(if (¬((m<0)=(n<0))) then -((m.natAbs*n.natAbs:Nat):Int) else ((m.natAbs*n.natAbs:Nat):Int))=m*n:=by
  by_cases h1:m<0<;>by_cases h2:n<0
  ·simp only[h1,h2,not_true_eq_false,if_false]
   rw[Int.natCast_mul,show (m.natAbs:Int)=-m by omega,show (n.natAbs:Int)=-n by omega];grind
  ·simp only[h1,h2]
   rw[if_pos (by simp),Int.natCast_mul,show (m.natAbs:Int)=-m by omega,show (n.natAbs:Int)=n by omega];grind
  ·simp only[h1,h2]
   rw[if_pos (by simp),Int.natCast_mul,show (m.natAbs:Int)=m by omega,show (n.natAbs:Int)=-n by omega];grind
  ·simp only[h1,h2,not_true_eq_false,if_false]
   rw[Int.natCast_mul,show (m.natAbs:Int)=m by omega,show (n.natAbs:Int)=n by omega]
 by_cases hb:(tN m.natAbs).length≤18∧(tN n.natAbs).length≤18
 ·rw[if_pos hb] at hbr
  by_cases h18:(tI m).length+(tI n).length≤18
  ·have h18':(((tI m).length+(tI n).length:Nat):Int)≤18:=by omega
   have lmn:(tN (m*n).natAbs).length≤18:=by
    rw[Int.natAbs_mul]
    have h3:∀q:Int,(tN q.natAbs).length≤(tI q).length:=fun q=>by unfold tI;split<;>simp
    have:=h3 m;have:=h3 n;omega
   have b1:(m*n).natAbs<1000000000000000000:=Nat.lt_of_lt_of_le (q4R lmn) (by decide)
   have e1:q0Q .i64 m n=m*n:=q8u (by omega)
   have e2:=q1F (m*n) (by omega) (by omega)
   clear b1
   simp only[STD,hbr,e0,h18',e1,e2]
  ·have h18':¬(((tI m).length+(tI n).length:Nat):Int)≤18:=by omega
   simp only[STD,hbr,e0,h18',vh,hP,ja,hS,decide_eq_decide]
   rw[←sg];simp only[eq_iff_iff]
 ·rw[if_neg hb] at hbr
  simp only[STD,hbr,vh,hP,ja,hS,decide_eq_decide]
  rw[←sg];simp only[eq_iff_iff]
end Go.Eng

namespace Go.Eng
theorem qAn{x:Int}(h:0≤x∧x≤254):qt .u8 x 1=x+1:=by
 unfold qt IntKind.wrap
 simp[IntKind.signed,IntKind.bits];omega
theorem qsx(a q:List UInt8)(i:Int){b x0:Nat}(hb:0<b)(hx:x0<10*b)(lb:(tN b).length≤1000000)(lx:(tN x0).length≤1000002) :
  (qf zk [.s a,.s (tN b),.s q,.s (tN x0),.i i,.i 48]).run=some (0,[.s a,.s (tN b),.s q,.s (tN (x0%b)),.i i,.i (48+((x0/b:Nat):Int))]):=by
 obtain⟨j,qs,h1,h2⟩:=jD (S:=zk) (fun k ps=>∃x c:Nat,ps=[.s a,.s (tN b),.s q,.s (tN x),.i i,.i (48+(c:Int))]∧x+c*b=x0∧c+k=10∧c≤9)
  (fun j qs=>j=0∧qs=[.s a,.s (tN b),.s q,.s (tN (x0%b)),.i i,.i (48+((x0/b:Nat):Int))]) (n:=10) (by omega) (fun k ps hk ⟨x,c,hps,he,hck,hc⟩=>by
  subst hps
  rw[qgD]
  have hxl:x≤x0:=by rw[←he];exact Nat.le_add_right _ _
  have hP:=q7v x b false (by have:=ko hxl;omega) (by omega)
  by_cases hlt:x<b
  ·right
   refine⟨0,[.s a,.s (tN b),.s q,.s (tN x),.i i,.i (48+(c:Int))],?_,rfl,?_⟩
   ·simp only[STD,qdD,hlt,decide_true]
   ·have e1:x0/b=c:=by rw[←he,Nat.add_mul_div_right _ _ hb,Nat.div_eq_of_lt hlt,Nat.zero_add]
    have e2:x0%b=x:=by rw[←he,Nat.add_mul_mod_self_right,Nat.mod_eq_of_lt hlt]
    rw[e1,e2]
  ·left
   have hge:b≤x:=by omega
   have hP:=hP (fun _=>hge)
   simp only[Bool.false_eq_true,↓reduceIte] at hP
   have hc9:c+1<10:=by
    apply Nat.lt_of_mul_lt_mul_right (a:=b)
    have:(c+1)*b=c*b+b:=Nat.succ_mul c b
    omega
   refine⟨k-1,[.s a,.s (tN b),.s q,.s (tN (x-b)),.i i,.i (48+((c+1:Nat):Int))],by omega,?_,x-b,c+1,rfl,?_,by omega,by omega⟩
   ·simp only[STD,qdD,hlt,decide_false,hP,qAn (show (0:Int)≤48+(c:Int)∧48+(c:Int)≤254 by omega)]
    rw[show (48+(c:Int)+1)=48+((c+1:Nat):Int) by omega]
   ·have:(c+1)*b=c*b+b:=Nat.succ_mul c b
    omega) (ps:=[.s a,.s (tN b),.s q,.s (tN x0),.i i,.i 48]) ⟨x0,0,by simp,by simp,by omega,by omega⟩
 obtain⟨rfl,rfl⟩:=h2
 exact h1
theorem qy3{s:List UInt8}{i:Nat}(h:i<s.length):q5W s (i:Int) (((i+1:Nat):Int))=[s[i]]:=by
 unfold q5W
 simp only[Int.toNat_natCast]
 rw[List.take_succ_eq_append_getElem h,List.drop_append_of_le_length (by simp;omega)]
 rw[List.drop_of_length_le (by simp;omega)];rfl
theorem qlw{m n:Nat}(hn:0<n)(lm:(tN m).length≤1000000)(ln:(tN n).length≤1000000) :
  (q2v [.s (tN m),.s (tN n)]).run=some (0,[.s (tN (m/n)),.s (tN (m%n))]):=by
 rw[qkt]
 have hdm:=wX m
 obtain⟨j,qs,h1,rfl,q,h2,h3,h4,h5⟩:=jD (S:=vZ) (fun k ps=>∃(i r:Nat) (q:List UInt8),ps=[.s (tN m),.s (tN n),.s q,.s (tN r),.i (i:Int)]∧i+k=(tN m).length∧q.length=i∧q4p q∧val q*n+r=val ((tN m).take i)∧r<n)
  (fun j qs=>j=0∧∃q:List UInt8,qs=[.s q,.s (tN (m%n))]∧q.length=(tN m).length∧q4p q∧val q=m/n) (n:=(tN m).length) (by omega) (fun k ps hk ⟨i,r,q,hps,hik,hql,hdq,hv,hr⟩=>by
  subst hps
  rw[qhY]
  by_cases hi:i<(tN m).length
  ·left
   have hc:=qeX hdm hi
   have hw:qt .i64 (i:Int) 1=((i+1:Nat):Int):=by rw[wi (by omega)];omega
   have hlr:(tN r).length≤(tN n).length:=ko (by omega)
   have hd10:=quV hc
   have hB:=qa7 (s:=tN r++[(tN m)[i]]) (q5Z.2 ⟨wX r,fun c hcc=>by simp at hcc;subst hcc;exact hc⟩) (by simp) (by simp;omega)
   rw[qip,q0u] at hB
   have lx:(tN (10*r+dv (tN m)[i])).length≤1000002:=by
    have h10:10*r+dv (tN m)[i]≤10*n:=by omega
    have e10:(tN (10*n)).length≤(tN 10).length+(tN n).length:=qlL 10 n
    have e11:(tN 10).length=2:=by decide
    have:=ko h10
    omega
   have hI:=qsx (tN m) q (i:Int) hn (x0:=10*r+dv (tN m)[i]) (by omega) ln lx
   have hq10:(10*r+dv (tN m)[i])/n<10:=by
    rw[Nat.div_lt_iff_lt_mul hn];omega
   have hd1:(i:Int)<qw (tN m):=by unfold qw;omega
   have hd2:((i+1:Nat):Int)≤qw (tN m):=by unfold qw;omega
   have hrs:qdU [[.i (48+(((10*r+dv (tN m)[i])/n:Nat):Int))]]=[dch ((10*r+dv (tN m)[i])/n)]:=by
    simp only[qdU,List.map_cons,List.map_nil,List.getD_cons_zero,U.toI,dch]
    congr 2
   have hl1:qw (tN r)+qw [(tN m)[i]]≤140737488355328:=by unfold qw;simp;omega
   have hl2:qw q+qw [dch ((10*r+dv (tN m)[i])/n)]≤140737488355328:=by unfold qw;simp;omega
   refine⟨k-1,[.s (tN m),.s (tN n),.s (q++[dch ((10*r+dv (tN m)[i])/n)]),.s (tN ((10*r+dv (tN m)[i])%n)),.i ((i+1:Nat):Int)],by omega,?_,i+1,_,_,rfl,by omega,by simp[hql],?_,?_,Nat.mod_lt _ hn⟩
   ·simp only[STD,hw,hd1,hd2,qy3 hi,hl1,q6K,hB,hI,hrs,hl2,show (0:Int)≤(i:Int) by omega,show (0:Int)≤((i+1:Nat):Int) by omega,show (i:Int)≤((i+1:Nat):Int) by omega,and_self]
   ·exact q5Z.2 ⟨hdq,qps hq10⟩
   ·rw[qip,qkk hq10,q85 hi,←hv]
    have hdm:=Nat.div_add_mod (10*r+dv (tN m)[i]) n
    generalize (10*r+dv (tN m)[i])/n=c at *
    generalize (10*r+dv (tN m)[i])%n=e at *
    have e1:(10*val q+c)*n=10*(val q*n)+n*c:=by rw[Nat.add_mul,Nat.mul_assoc,Nat.mul_comm c n]
    omega
  ·right
   have hie:i=(tN m).length:=by omega
   have hd1:¬((i:Int)<qw (tN m)):=by unfold qw;omega
   rw[hie,List.take_length,q0u] at hv
   have e1:m/n=val q:=by rw[←hv,Nat.add_comm,Nat.add_mul_div_right _ _ hn,Nat.div_eq_of_lt hr,Nat.zero_add]
   have e2:m%n=r:=by rw[←hv,Nat.add_comm,Nat.add_mul_mod_self_right,Nat.mod_eq_of_lt hr]
   refine⟨0,[.s q,.s (tN r)],?_,rfl,q,by rw[e2],by omega,hdq,e1.symm⟩
   simp only[STD,hd1]) (ps:=[.s (tN m),.s (tN n),.s [],.s [48],.i 0]) ⟨0,0,[],rfl,by omega,rfl,qiu,by simp[qcx],hn⟩
 subst h2
 have hB:=qa7 (s:=q) h4 (by intro h;subst h;have:=qfD m;simp at h3;omega) (by omega)
 rw[h5] at hB
 simp only[STD,h1,hB]
def fq(m n:Int):Int:=if 0<n then m/n else (-m)/(-n)
theorem qiY{m n q:Int}(h:(0<n∧q*n≤m∧m<q*n+n)∨(n<0∧q*n+n<m∧m≤q*n)):fq m n=q:=by
 unfold fq
 rcases h with⟨h0,h1,h2⟩|⟨h0,h1,h2⟩
 ·rw[if_pos h0]
  exact((Int.ediv_emod_unique (r:=m-q*n) h0).2 ⟨by rw[Int.mul_comm];omega,by omega,by omega⟩).1
 ·rw[if_neg (by omega)]
  have e:-n*q=-(q*n):=by rw[Int.neg_mul,Int.mul_comm]
  exact((Int.ediv_emod_unique (r:=q*n-m) (show 0 < -n by omega)).2 ⟨by omega,by omega,by omega⟩).1
theorem qkR{n q:Int}(h:n≠0):fq (q*n) n=q:=by
 apply qiY
 rcases Int.lt_or_lt_of_ne h with h|h
 ·exact .inr ⟨h,by omega,by omega⟩
 ·exact .inl ⟨h,by omega,by omega⟩
theorem qAT(m:Int){n:Int}(_:n≠0):(fq m n).natAbs≤m.natAbs+1:=by
 unfold fq
 split
 ·have:=Int.natAbs_ediv_le_natAbs m n;omega
 ·have:=Int.natAbs_ediv_le_natAbs (-m) (-n);omega
theorem qjd(m:Int){n:Int}(hn:n≠0):n*m.tdiv n+q5s m n=m∧(q5s m n).natAbs<n.natAbs∧(0≤m→0≤q5s m n)∧(m≤0→q5s m n≤0):=by
 unfold q5s
 refine⟨Int.mul_tdiv_add_tmod m n,?_,fun h=>Int.tmod_nonneg n h,fun h=>?_⟩
 ·rw[Int.natAbs_tmod]
  exact Nat.mod_lt _ (by omega)
 ·have:=Int.tmod_nonneg n (show 0≤-m by omega)
  rw[Int.neg_tmod] at this
  omega
end Go.Eng

namespace Go.Eng
theorem qx7{m:Int}(h:(tN m.natAbs).length≤18):m.natAbs<1000000000000000000:=Nat.lt_of_lt_of_le (q4R h) (by decide)
theorem qeY{n t:Int}(hn:n≠0)(h:-9223372036854775808≤t∧t≤9223372036854775807):yH .i64 (n*t) n=t:=by
 unfold yH
 rw[Int.mul_tdiv_cancel_left _ hn]
 unfold IntKind.wrap
 simp[IntKind.signed,IntKind.bits];omega
theorem qyF(m:Int)(n:Int):(m.tdiv n).natAbs≤m.natAbs:=by
 rw[Int.natAbs_tdiv];exact Nat.div_le_self _ _
theorem qx4{m n:Int}(hn:n≠0) :
  (q5s m n≠0∧¬((q5s m n<0)=(n<0))→fq m n=m.tdiv n-1∧m-fq m n*n=q5s m n+n)∧(¬(q5s m n≠0∧¬((q5s m n<0)=(n<0)))→fq m n=m.tdiv n∧m-fq m n*n=q5s m n):=by
 obtain⟨h1,h2,h3,h4⟩:=qjd m hn
 generalize m.tdiv n=t at *
 generalize q5s m n=r at *
 have e:n*t=t*n:=Int.mul_comm _ _
 have e2:(t-1)*n=t*n-n:=by rw[Int.sub_mul,Int.one_mul]
 constructor
 ·intro⟨c1,c2⟩
  have c3:¬(r<0↔n<0):=fun h=>c2 (propext h)
  have:fq m n=t-1:=by
   apply qiY
   rw[e2]
   rcases Int.lt_or_lt_of_ne hn with h|h
   ·have:¬r<0:=fun q=>c3 ⟨fun _=>h,fun _=>q⟩
    exact .inr ⟨h,by omega,by omega⟩
   ·have:r<0:=by
     rcases Decidable.em (r<0) with q|q
     ·exact q
     ·exact absurd ⟨fun x=>by omega,fun x=>by omega⟩ c3
    exact .inl ⟨h,by omega,by omega⟩
  rw[this,e2]
  exact⟨rfl,by omega⟩
 ·intro c
  have c':r=0∨(r<0↔n<0):=by
   rcases Decidable.em (r=0) with q|q
   ·exact .inl q
   ·right
    rcases Decidable.em (r<0↔n<0) with q2|q2
    ·exact q2
    ·exact absurd ⟨q,fun h=>q2 (by rw[h])⟩ c
  have:fq m n=t:=by
   apply qiY
   rcases Int.lt_or_lt_of_ne hn with h|h
   ·rcases c' with q|q
    ·exact .inr ⟨h,by omega,by omega⟩
    ·have:=q.2 h;exact .inr ⟨h,by omega,by omega⟩
   ·rcases c' with q|q
    ·exact .inl ⟨h,by omega,by omega⟩
    ·have:¬r<0:=fun x=>by have:=q.1 x;omega
     exact .inl ⟨h,by omega,by omega⟩
  rw[this]
  exact⟨rfl,by omega⟩
theorem qAC{m n:Int}(hn:n≠0) :
  (m.natAbs%n.natAbs≠0∧¬((m<0)=(n<0))→fq m n=-((m.natAbs/n.natAbs:Nat):Int)-1) ∧
  (¬(m.natAbs%n.natAbs≠0∧¬((m<0)=(n<0)))→fq m n=if ¬((m<0)=(n<0)) then -((m.natAbs/n.natAbs:Nat):Int) else ((m.natAbs/n.natAbs:Nat):Int)):=by
 have hd:=Nat.div_add_mod m.natAbs n.natAbs
 have hl:=Nat.mod_lt m.natAbs (show 0<n.natAbs by omega)
 generalize m.natAbs/n.natAbs=q at *
 generalize m.natAbs%n.natAbs=r at *
 have hq:((n.natAbs*q:Nat):Int)=(n.natAbs:Int)*(q:Int):=by simp
 have e1:n<0→(n.natAbs:Int)*(q:Int)=-((q:Int)*n):=fun h=>by rw[show (n.natAbs:Int)=-n by omega,Int.neg_mul,Int.mul_comm]
 have e2:0<n→(n.natAbs:Int)*(q:Int)=(q:Int)*n:=fun h=>by rw[show (n.natAbs:Int)=n by omega,Int.mul_comm]
 have e3:(-(q:Int)-1)*n=-((q:Int)*n)-n:=by rw[Int.sub_mul,Int.neg_mul,Int.one_mul]
 have e4:(-(q:Int))*n=-((q:Int)*n):=Int.neg_mul _ _
 constructor
 ·intro⟨c1,c2⟩
  have c3:¬(m<0↔n<0):=fun h=>c2 (propext h)
  apply qiY
  rw[e3]
  rcases Int.lt_or_lt_of_ne hn with h|h
  ·have:=e1 h
   have:¬m<0:=fun q=>c3 ⟨fun _=>h,fun _=>q⟩
   exact .inr ⟨h,by omega,by omega⟩
  ·have:=e2 h
   have:m<0:=by
    rcases Decidable.em (m<0) with q|q
    ·exact q
    ·exact absurd ⟨fun x=>by omega,fun x=>by omega⟩ c3
   exact .inl ⟨h,by omega,by omega⟩
 ·intro c
  by_cases c2:(m<0)=(n<0)
  ·rw[if_neg (by simpa using c2)]
   have c3:m<0↔n<0:=by rw[c2]
   apply qiY
   rcases Int.lt_or_lt_of_ne hn with h|h
   ·have:=e1 h
    have:=c3.2 h
    exact .inr ⟨h,by omega,by omega⟩
   ·have:=e2 h
    have:¬m<0:=fun x=>by have:=c3.1 x;omega
    exact .inl ⟨h,by omega,by omega⟩
  ·rw[if_pos c2]
   have hr:r=0:=by
    rcases Nat.eq_zero_or_pos r with h|h
    ·exact h
    ·exact absurd ⟨by omega,c2⟩ c
   have c3:¬(m<0↔n<0):=fun h=>c2 (propext h)
   apply qiY
   rw[e4]
   rcases Int.lt_or_lt_of_ne hn with h|h
   ·have:=e1 h
    have:¬m<0:=fun q=>c3 ⟨fun _=>h,fun _=>q⟩
    exact .inr ⟨h,by omega,by omega⟩
   ·have:=e2 h
    have:m≤0:=by
     rcases Decidable.em (m<0) with q|q
     ·omega
     ·exact absurd ⟨fun x=>by omega,fun x=>by omega⟩ c3
    exact .inl ⟨h,by omega,by omega⟩
theorem qwI:tI 1=[49]:=rfl
theorem q4b(n:Nat):(tN n=[48])=(n=0):=by
 rw[←qsv];exact propext ⟨fun h=>qop h,fun h=>by rw[h]⟩
theorem qxj(m:Int){n:Int}(hn:n≠0):nl (fq m n)≤nl m+2:=by
 have h:=qAT m hn
 have h2:=ko h
 have h3:=qso m.natAbs 1
 have h4:(tN 1).length=1:=rfl
 have:=qfD m.natAbs
 unfold nl
 omega
theorem q3D(m n:Int)(hn0:n≠0)(hm:nl m≤400000)(hn:nl n≤400000):(qQ [.s (tI m),.s (tI n)]).run=some (0,[.s (tI (fq m n)),.s (tI (m-fq m n*n))]):=by
 rw[qml]
 have hbr:=q4P m n
 by_cases hb:(tN m.natAbs).length≤18∧(tN n.natAbs).length≤18
 ·rw[if_pos hb] at hbr
  have b1:=qx7 hb.1
  have b2:=qx7 hb.2
  obtain⟨h1,h2,h3,h4⟩:=qjd m hn0
  obtain⟨g1,g2⟩:=qx4 (m:=m) hn0
  have ht:=qyF m n
  by_cases c0:q5s m n=0
  ·obtain⟨e1,e2⟩:=g2 (fun h=>h.1 c0)
   rw[e2,e1]
   have w1:z8 .i64 m (q5s m n)=n*m.tdiv n:=by rw[ub (by omega)];omega
   have w2:=qeY (t:=m.tdiv n) hn0 (by omega)
   have o1:=q1F (m.tdiv n) (by omega) (by omega)
   have o2:=q1F (q5s m n) (by omega) (by omega)
   simp only[STD,hbr,hn0,c0] at w1 o2 ⊢
   simp only[STD,w1,w2,o1,o2]
  ·by_cases c1:(q5s m n<0)=(n<0)
   ·obtain⟨e1,e2⟩:=g2 (fun h=>h.2 c1)
    rw[e2,e1]
    have w1:z8 .i64 m (q5s m n)=n*m.tdiv n:=by rw[ub (by omega)];omega
    have w2:=qeY (t:=m.tdiv n) hn0 (by omega)
    have o1:=q1F (m.tdiv n) (by omega) (by omega)
    have o2:=q1F (q5s m n) (by omega) (by omega)
    have hbq:(ilt (q5s m n) 0=ilt n 0)=True:=by
     simp only[ilt,decide_eq_decide,eq_iff_iff,iff_true]
     rw[c1]
    simp only[STD,hbr,hn0,c0,hbq,w1,w2,o1,o2]
   ·obtain⟨e1,e2⟩:=g1 ⟨c0,c1⟩
    rw[e2,e1]
    have w0:qt .i64 (q5s m n) n=q5s m n+n:=wi (by omega)
    have e3:n*(m.tdiv n-1)=n*m.tdiv n-n:=by rw[Int.mul_sub,Int.mul_one]
    have w1:z8 .i64 m (q5s m n+n)=n*(m.tdiv n-1):=by rw[ub (by omega)];omega
    have w2:=qeY (t:=m.tdiv n-1) hn0 (by omega)
    have o1:=q1F (m.tdiv n-1) (by omega) (by omega)
    have o2:=q1F (q5s m n+n) (by omega) (by omega)
    have hbq:(ilt (q5s m n) 0=ilt n 0)=False:=by
     simp only[ilt,decide_eq_decide,eq_iff_iff,iff_false]
     exact fun h=>c1 (propext h)
    simp only[STD,hbr,hn0,c0,hbq,w0,w1,w2,o1,o2]
 ·rw[if_neg hb] at hbr
  have hm':(tN m.natAbs).length≤400000:=hm
  have hn':(tN n.natAbs).length≤400000:=hn
  have hD:=qlw (m:=m.natAbs) (n:=n.natAbs) (by omega) (by omega) (by omega)
  have lq:(tN (m.natAbs/n.natAbs)).length≤(tN m.natAbs).length:=ko (Nat.div_le_self _ _)
  have hS:=fun b=>kG (m.natAbs/n.natAbs) b (by omega)
  have hbq:(decide (m<0)=decide (n<0))=((m<0)=(n<0)):=by
   simp only[decide_eq_decide,eq_iff_iff]
  have lf:=qxj m hn0
  have hT:=qi0 (fq m n) n (by omega) (by omega)
  have lt:=q1V (fq m n) n
  have hM:=qce m (fq m n*n) (by omega) (by omega)
  obtain⟨g1,g2⟩:=qAC (m:=m) hn0
  by_cases c1:(m<0)=(n<0)
  ·have e1:=g2 (fun h=>h.2 c1)
   rw[if_neg (by simpa using c1)] at e1
   have hS':=hS false
   simp only[Bool.false_eq_true,if_false] at hS'
   rw[←e1] at hS'
   have hnb:(!Go.Eng.beq (decide (m<0)) (decide (n<0)))=false:=by
    simp only[Go.Eng.beq,Bool.not_eq_false',beq_iff_eq];rw[hbq];exact c1
   by_cases c0:m.natAbs%n.natAbs=0
   ·simp only[STD,hbr,vh,hD,ja,hnb,hS',zG,q4b,c0,hT,hM]
   ·simp only[STD,hbr,vh,hD,ja,hnb,hS',zG,q4b,c0,hT,hM]
  ·have hnb:(!Go.Eng.beq (decide (m<0)) (decide (n<0)))=true:=by
    have:¬(decide (m<0)=decide (n<0)):=by rw[hbq];exact c1
    simp only[Go.Eng.beq,Bool.not_eq_true',beq_eq_false_iff_ne];exact this
   have hS':=hS true
   simp only[if_true] at hS'
   by_cases c0:m.natAbs%n.natAbs=0
   ·have e1:=g2 (fun h=>h.1 c0)
    rw[if_pos c1] at e1
    rw[←e1] at hS'
    simp only[STD,hbr,vh,hD,ja,hnb,hS',zG,q4b,c0,hT,hM]
   ·have e1:=g1 ⟨c0,c1⟩
    have hMi:=qce (-((m.natAbs/n.natAbs:Nat):Int)) 1 (by rw[qmW];show (tN (m.natAbs/n.natAbs)).length≤_;omega) (by decide)
    rw[qwI,←e1] at hMi
    simp only[STD,hbr,vh,hD,ja,hnb,hS',zG,q4b,c0,hMi,hT,hM]
end Go.Eng

namespace Go.Eng
theorem qA7(x:Nat){y:Nat}(h:0<y):fq (x:Int) (y:Int)=((x/y:Nat):Int)∧(x:Int)-fq (x:Int) (y:Int)*(y:Int)=((x%y:Nat):Int):=by
 have e:fq (x:Int) (y:Int)=((x/y:Nat):Int):=by unfold fq;rw[if_pos (by omega)];rfl
 refine⟨e,?_⟩
 rw[e]
 have:=Nat.div_add_mod x y
 have h2:((y*(x/y):Nat):Int)=((x/y:Nat):Int)*(y:Int):=by rw[Nat.mul_comm];simp
 omega
theorem qxM(a b:Nat)(hb:b<9223372036854775808):(qf vW [.i (a:Int),.i (b:Int)]).run=some (0,[.i ((Nat.gcd a b:Nat):Int)]):=by
 obtain⟨j,qs,h1,rfl,rfl⟩:=jD (S:=vW) (fun k ps=>∃x y:Nat,ps=[.i (x:Int),.i (y:Int)]∧y=k∧Nat.gcd x y=Nat.gcd a b)
  (fun j qs=>j=0∧qs=[.i ((Nat.gcd a b:Nat):Int)]) (n:=b) hb (fun k ps hk ⟨x,y,hps,hy,hg⟩=>by
  subst hps
  rw[qig]
  by_cases h0:y=0
  ·right
   refine⟨0,[.i (x:Int)],?_,rfl,?_⟩
   ·simp only[STD,h0];simp[]
   ·rw[←hg,h0,Nat.gcd_zero_right]
  ·left
   refine⟨x%y,[.i (y:Int),.i ((x%y:Nat):Int)],by rw[←hy];exact Nat.mod_lt _ (by omega),?_,y,x%y,rfl,rfl,?_⟩
   ·simp only[STD,show (0:Int)<(y:Int) by omega,show ¬((y:Int)=0) by omega,qkT]
   ·rw[←hg,Nat.gcd_comm y,←Nat.gcd_rec,Nat.gcd_comm]) (ps:=[.i (a:Int),.i (b:Int)]) ⟨a,b,rfl,rfl,rfl⟩
 exact h1
def eM(a b:Nat):Nat:=if b=0 then 0 else Nat.log2 (a*b)+1+if a<b then 1 else 0
theorem qwD{m n:Nat}(h:m≤n):Nat.log2 m≤Nat.log2 n:=by
 by_cases hm:m=0
 ·subst hm;simp
 ·rcases Nat.lt_or_ge (Nat.log2 n) (Nat.log2 m) with h1|h1
  ·have:=(Nat.log2_lt (show n≠0 by omega)).1 h1
   have h2:=Nat.log2_self_le hm
   omega
  ·exact h1
theorem qvg{a b:Nat}(hb:b≠0):eM b (a%b)<eM a b:=by
 have hlt:=Nat.mod_lt a (show 0<b by omega)
 unfold eM
 rw[if_neg hb]
 by_cases hr:a%b=0
 ·rw[if_pos hr];omega
 ·rw[if_neg hr,if_neg (show ¬b<a%b by omega)]
  by_cases hab:a<b
  ·rw[if_pos hab,Nat.mod_eq_of_lt hab,Nat.mul_comm b a];omega
  ·rw[if_neg hab]
   have hd:=Nat.div_add_mod a b
   have hq:1≤a/b:=(Nat.le_div_iff_mul_le (by omega)).2 (by omega)
   have h1:b*1≤b*(a/b):=Nat.mul_le_mul_left _ hq
   have h2:2*(b*(a%b))≤a*b:=by
    have:2*(a%b)≤a:=by omega
    have:=Nat.mul_le_mul_right b this
    rw[Nat.mul_assoc,Nat.mul_comm (a%b) b] at this
    exact this
   have h3:=qwD h2
   have h4:Nat.log2 (2*(b*(a%b)))=Nat.log2 (b*(a%b))+1:=by
    apply Nat.log2_two_mul
    exact Nat.mul_ne_zero hb hr
   omega
theorem qvX{x k j:Nat}(h:(tN x).length≤k)(hj:4*k=j):x<2^j:=by
 have h3:x<10^k:=q4R h
 have h4:(10:Nat)^k≤16^k:=Nat.pow_le_pow_left (by omega) _
 have h5:(16:Nat)^k=2^j:=by rw[show (16:Nat)=2^4 from rfl,←Nat.pow_mul,hj]
 rw[h5] at h4
 exact Nat.lt_of_lt_of_le h3 h4
theorem qte{a b:Nat}(ha:(tN a).length≤400000)(hb:(tN b).length≤400000):eM a b<9223372036854775808:=by
 unfold eM
 have h1:=qlL a b
 by_cases h0:a*b=0
 ·rw[h0];simp;split<;>(try split)<;>omega
 ·obtain⟨j,hj⟩:∃j,j=3200000:=⟨_,rfl⟩
  have h2:a*b<2^j:=qvX (k:=800000) (by omega) (by omega)
  have:=(Nat.log2_lt h0).2 h2
  split<;>(try split)<;>omega
theorem qfW(m n:Int)(hm:nl m≤400000)(hn:nl n≤400000):(qS [.s (tI m),.s (tI n)]).run=some (0,[.s (tN (Nat.gcd m.natAbs n.natAbs))]):=by
 rw[qmd]
 have hm':(tN m.natAbs).length≤400000:=hm
 have hn':(tN n.natAbs).length≤400000:=hn
 have hS:=fun x (h:(tN x).length≤400000)=>kG x false (by omega)
 simp only[Bool.false_eq_true,if_false,q0w] at hS
 obtain⟨j,qs,h1,h2,rfl⟩:=jD (S:=jk) (fun k ps=>∃x y:Nat,ps=[.s (tN x),.s (tN y)]∧eM x y=k∧Nat.gcd x y=Nat.gcd m.natAbs n.natAbs∧(tN x).length≤400000∧(tN y).length≤400000)
  (fun j qs=>(j=0∨j=1)∧qs=[.s (tN (Nat.gcd m.natAbs n.natAbs))]) (n:=eM m.natAbs n.natAbs) (qte hm' hn') (fun k ps hk ⟨x,y,hps,hy,hg,lx,ly⟩=>by
  subst hps
  rw[qjD]
  by_cases h0:y=0
  ·right
   refine⟨0,[.s (tN x)],?_,.inl rfl,?_⟩
   ·simp only[STD,zG,q4b,h0]
   ·rw[←hg,h0,Nat.gcd_zero_right]
  ·have hbr:=q4P (x:Int) (y:Int)
   rw[q0w,q0w] at hbr
   simp only[Int.natAbs_natCast] at hbr
   by_cases hb:(tN x).length≤18∧(tN y).length≤18
   ·right
    rw[if_pos hb] at hbr
    have b1:=qx7 (m:=(x:Int)) hb.1
    have b2:=qx7 (m:=(y:Int)) hb.2
    simp only[Int.natAbs_natCast] at b1 b2
    have hE:=qxM x y (by omega)
    have hgl:Nat.gcd x y≤y:=Nat.gcd_le_right _ (by omega)
    have hO:=q1F ((Nat.gcd x y:Nat):Int) (by omega) (by omega)
    rw[q0w] at hO
    refine⟨1,[.s (tN (Nat.gcd x y))],?_,.inr rfl,by rw[hg]⟩
    simp only[STD,zG,q4b,h0,hbr,hE,hO]
   ·left
    rw[if_neg hb] at hbr
    have hP:=q3D (x:Int) (y:Int) (by omega) (by exact lx) (by exact ly)
    rw[q0w,q0w,(qA7 x (show 0<y by omega)).2,q0w] at hP
    refine⟨eM y (x%y),[.s (tN y),.s (tN (x%y))],by rw[←hy];exact qvg h0,?_,y,x%y,rfl,rfl,?_,ly,Nat.le_trans (ko (Nat.le_of_lt (Nat.mod_lt _ (by omega)))) ly⟩
    ·simp only[STD,zG,q4b,h0,hbr,hP]
    ·rw[←hg,Nat.gcd_comm y,←Nat.gcd_rec,Nat.gcd_comm]) (ps:=[.s (tN m.natAbs),.s (tN n.natAbs)]) ⟨_,_,rfl,rfl,rfl,hm',hn'⟩
 rcases h2 with rfl|rfl
 ·simp only[STD,vh,hS _ hm',hS _ hn',h1,zn h1,ite_self]
 ·simp only[STD,vh,hS _ hm',hS _ hn',h1,zn h1,ite_self]
def mag(s:List UInt8):List UInt8:=if s.getD 0 0=45 then s.drop 1 else s
theorem qqf(m:Int):mag (tI m)=tN m.natAbs:=by
 unfold mag
 by_cases h:m<0
 ·rw[q9S h];simp
 ·rw[qgC h]
  obtain⟨c,t,e,h1,h2⟩:=qf7 (wX m.natAbs) (qlG _)
  rw[e]
  simp only[List.getD_cons_zero]
  rw[if_neg]
  intro hc;subst hc;revert h1;decide
theorem qr4(s:List UInt8):(∃m:Int,s=tI m)↔mag s≠[]∧q4p (mag s)∧((mag s).getD 0 0=48→s.length=1):=by
 constructor
 ·rintro ⟨m,rfl⟩
  rw[qqf]
  refine⟨qlG _,wX _,fun h=>?_⟩
  rcases qvr m.natAbs with h1|h1
  ·have h2:=qp4 m.natAbs
   have hv:m.natAbs=0:=by
    obtain⟨c,e⟩:∃c,tN m.natAbs=[c]:=List.length_eq_one_iff.1 h1
    rw[e] at h
    simp at h
    have:=q0u m.natAbs
    rw[e,h] at this
    simpa[val,dv] using this.symm
   have hm0:m=0:=by omega
   rw[hm0];rfl
  ·exact absurd h h1
 ·rintro ⟨h1,h2,h3⟩
  by_cases h45:s.getD 0 0=45
  ·have hm:mag s=s.drop 1:=by unfold mag;rw[if_pos h45]
   obtain⟨c,t,rfl⟩:∃c t,s=c::t:=by
    cases s with
    | nil=>simp at h45
    | cons c t=>exact⟨c,t,rfl⟩
   simp at h45
   subst h45
   rw[hm] at h1 h2 h3
   simp only[List.drop_succ_cons,List.drop_zero] at h1 h2 h3
   have h4:t.getD 0 0≠48:=fun h=>by
    have:=h3 h
    simp at this
    exact h1 this
   have hv:=qtd h2 h1 h4
   have hp:0<10^(t.length-1):=Nat.pow_pos (by omega)
   refine⟨-((val t:Nat):Int),?_⟩
   rw[q9S (by omega)]
   simp only[Int.natAbs_neg,Int.natAbs_natCast]
   rw[←qlW h2 h1 (.inr h4)]
  ·have hm:mag s=s:=by unfold mag;rw[if_neg h45]
   rw[hm] at h1 h2 h3
   refine⟨((val s:Nat):Int),?_⟩
   rw[q0w]
   refine qlW h2 h1 ?_
   by_cases h4:s.getD 0 0=48
   ·exact .inl (h3 h4)
   ·exact .inr h4
open Classical in
noncomputable def qro(s:List UInt8):Int:=if ∃m:Int,s=tI m then (if (mag s).length≤1024 then 0 else 11) else 3
theorem qAf(s:List UInt8)(hl:s.length≤9223372036854775807):(qg [.s s]).run=some (0,[.s (mag s)]):=by
 rw[qiV]
 cases s with
 | nil=>simp only[STD,zG];rfl
 | cons c t=>
  have h1:(0:Int)<qw (c::t):=by unfold qw;simp only[List.length_cons];omega
  have h2:(1:Int)≤qw (c::t):=by omega
  have hs:sat (c::t) 0=(c.toNat:Int):=by simp[sat]
  have hc:((c.toNat:Int)=45)=(c=45):=by
   simp only[eq_iff_iff]
   exact⟨fun h=>UInt8.toNat_inj.1 (by show c.toNat=45;omega),fun h=>by rw[h];rfl⟩
  simp only[STD,zG,show ¬(c::t=[]) by simp,h1,h2,hs,hc,Int.le_refl,and_self,show (0:Int)≤qw (c::t) by omega,show (0:Int)≤1 by omega]
  unfold mag
  simp only[List.getD_cons_zero]
  by_cases h:c=45
  ·rw[if_pos h,if_pos h];simp[q5W,qw]
  ·rw[if_neg h,if_neg h]
theorem qhI(s:List UInt8)(hl:s.length≤1000000000):(vJ [.s s]).run=some (0,[.i (qro s)]):=by
 rw[qnJ]
 have hsz:=qAf s (by omega)
 have hml:(mag s).length≤s.length:=by unfold mag;split<;>simp
 obtain⟨j,qs,h1,h2⟩:=jD (S:=wJ) (fun k ps=>∃i:Nat,ps=[.s (mag s),.i (i:Int)]∧i+k=(mag s).length∧q4p ((mag s).take i))
  (fun j qs=>(q4p (mag s)∧j=0∧qs=[.s (mag s)])∨(¬q4p (mag s)∧j=1∧qs=[.i 3])) (n:=(mag s).length) (by omega) (fun k ps hk ⟨i,hps,hi,hd⟩=>by
  subst hps
  rw[qkK]
  by_cases hlt:i<(mag s).length
  ·have a1:(i:Int)<qw (mag s):=by unfold qw;omega
   have a2:(0:Int)≤(i:Int):=by omega
   have hs:=qgV hlt
   have hw:qt .i64 (i:Int) 1=((i+1:Nat):Int):=by rw[wi (by omega)];omega
   by_cases b1:((mag s)[i].toNat:Int)<48
   ·right
    refine⟨1,[.i 3],?_,.inr ⟨fun h=>?_,rfl,rfl⟩⟩
    ·simp only[STD,a1,a2,hs,b1,and_self]
    ·have:=(qeX h hlt).1;omega
   ·by_cases b2:(57:Int)<((mag s)[i].toNat:Int)
    ·right
     refine⟨1,[.i 3],?_,.inr ⟨fun h=>?_,rfl,rfl⟩⟩
     ·simp only[STD,a1,a2,hs,b1,b2,and_self]
     ·have:=(qeX h hlt).2;omega
    ·left
     refine⟨k-1,[.s (mag s),.i ((i+1:Nat):Int)],by omega,?_,i+1,rfl,by omega,?_⟩
     ·simp only[STD,a1,a2,hs,b1,b2,and_self,hw]
     ·rw[List.take_succ_eq_append_getElem hlt]
      exact q5Z.2 ⟨hd,fun c hc=>by simp at hc;subst hc;omega⟩
  ·right
   have a1:¬((i:Int)<qw (mag s)):=by unfold qw;omega
   refine⟨0,[.s (mag s)],?_,.inl ⟨?_,rfl,rfl⟩⟩
   ·simp only[STD,a1]
   ·rwa [List.take_of_length_le (by omega)] at hd) (ps:=[.s (mag s),.i 0]) ⟨0,rfl,by omega,by simpa using qiu⟩
 have hcan:=qr4 s
 unfold qro
 by_cases hne:mag s=[]
 ·rw[if_neg (fun h=>(hcan.1 h).1 hne)]
  simp only[STD,hsz,zG,hne]
 ·have hp:0<(mag s).length:=List.length_pos_iff.2 hne
  have a1:(0:Int)<qw (mag s):=by unfold qw;omega
  have hs:sat (mag s) 0=((mag s)[0].toNat:Int):=qgV (i:=0) hp
  have h48:((mag s)[0].toNat:Int)=48↔(mag s).getD 0 0=48:=by
   have:(mag s).getD 0 0=(mag s)[0]:=by simp[List.getD_eq_getElem?_getD,hp]
   rw[this]
   exact⟨fun h=>UInt8.toNat_inj.1 (by show (mag s)[0].toNat=48;omega),fun h=>by rw[h];rfl⟩
  have hl1:(1<qw s)=(1<s.length):=by unfold qw;simp only[eq_iff_iff];omega
  have hl2:(1<qw (mag s))=(1<(mag s).length):=by unfold qw;simp only[eq_iff_iff];omega
  have hl3:(1024<qw (mag s))=¬((mag s).length≤1024):=by unfold qw;simp only[eq_iff_iff];omega
  by_cases hz:((mag s)[0].toNat:Int)=48
  ·by_cases hs1:1<s.length
   ·rw[if_neg (fun h=>by have:=(hcan.1 h).2.2 (h48.1 hz);omega)]
    by_cases hs2:1<(mag s).length
    ·simp only[STD,hsz,zG,hne,a1,hs,hz,hl1,hl2,hs1,hs2,Int.le_refl,and_self]
    ·simp only[STD,hsz,zG,hne,a1,hs,hz,hl1,hl2,hs1,hs2,Int.le_refl,and_self]
   ·have hs2:¬1<(mag s).length:=by omega
    rcases h2 with⟨hd,rfl,rfl⟩|⟨hd,rfl,rfl⟩
    ·rw[if_pos (hcan.2 ⟨hne,hd,fun _=>by omega⟩)]
     simp only[STD,hsz,zG,hne,a1,hs,hz,hl1,hl2,hl3,hs1,hs2,Int.le_refl,and_self,h1,zn h1]
     split<;>simp_all
    ·rw[if_neg (fun h=>hd (hcan.1 h).2.1)]
     simp only[STD,hsz,zG,hne,a1,hs,hz,hl1,hl2,hs1,hs2,Int.le_refl,and_self,h1,zn h1,show ¬(1=0) by omega]
  ·rcases h2 with⟨hd,rfl,rfl⟩|⟨hd,rfl,rfl⟩
   ·rw[if_pos (hcan.2 ⟨hne,hd,fun h=>absurd (h48.2 h) hz⟩)]
    simp only[STD,hsz,zG,hne,a1,hs,hz,hl1,hl2,hl3,Int.le_refl,and_self,h1,zn h1]
    split<;>simp_all
   ·rw[if_neg (fun h=>hd (hcan.1 h).2.1)]
    simp only[STD,hsz,zG,hne,a1,hs,hz,hl1,hl2,Int.le_refl,and_self,h1,zn h1,show ¬(1=0) by omega]
end Go.Eng

namespace Go.Eng
def tQ(q:Rat):List UInt8:=if q.den=1 then tI q.num else tI q.num++47::tN q.den
def dl(n:Nat):Nat:=(tN n).length
def qn(q:Rat):Nat:=nl q.num
def qd(q:Rat):Nat:=dl q.den
theorem qvP{s:List UInt8}(h:q4p s):∀c,c∈s→c≠47:=fun c hc e=>by
 have:=h c hc
 rw[e] at this
 revert this;decide
theorem qnK(m:Int):∀c,c∈tI m→c≠47:=by
 intro c hc
 unfold tI at hc
 split at hc
 ·rcases List.mem_cons.1 hc with rfl|hc
  ·decide
  ·exact qvP (wX _) c hc
 ·exact qvP (wX _) c hc
theorem qt2:∀{s s' t t':List UInt8},(∀c,c∈s→c≠47)→(∀c,c∈s'→c≠47)→s++47::t=s'++47::t'→s=s'∧t=t'
 | [],[],t,t',_,_,h=>⟨rfl,by simpa using h⟩
 | [],c::s',t,t',_,h2,h=>by
  simp only[List.nil_append,List.cons_append,List.cons.injEq] at h
  exact absurd h.1.symm (h2 c List.mem_cons_self)
 | c::s,[],t,t',h1,_,h=>by
  simp only[List.nil_append,List.cons_append,List.cons.injEq] at h
  exact absurd h.1 (h1 c List.mem_cons_self)
 | c::s,c'::s',t,t',h1,h2,h=>by
  simp only[List.cons_append,List.cons.injEq] at h
  obtain⟨e1,e2⟩:=qt2 (fun c hc=>h1 c (List.mem_cons_of_mem _ hc)) (fun c hc=>h2 c (List.mem_cons_of_mem _ hc)) h.2
  exact⟨by rw[h.1,e1],e2⟩
theorem q93{q:Rat}(h:q.den=1):tQ q=tI q.num:=by unfold tQ;rw[if_pos h]
theorem q4Q{q:Rat}(h:q.den≠1):tQ q=tI q.num++47::tN q.den:=by unfold tQ;rw[if_neg h]
theorem qAD{a b:Rat}(h:tQ a=tQ b):a=b:=by
 by_cases ha:a.den=1<;>by_cases hb:b.den=1
 ·rw[q93 ha,q93 hb] at h
  exact Rat.ext (qq3 h) (ha.trans hb.symm)
 ·rw[q93 ha,q4Q hb] at h
  exact absurd rfl (qnK a.num 47 (by rw[h];simp))
 ·rw[q4Q ha,q93 hb] at h
  exact absurd rfl (qnK b.num 47 (by rw[←h];simp))
 ·rw[q4Q ha,q4Q hb] at h
  obtain⟨e1,e2⟩:=qt2 (qnK _) (qnK _) h
  exact Rat.ext (qq3 e1) (qop e2)
theorem quF(a b:Rat):(tQ a=tQ b)=(a=b):=propext ⟨qAD,fun h=>by rw[h]⟩
theorem qrG(m:Int):tQ (m:Rat)=tI m:=q93 (by simp)
theorem qxc(n:Nat):tQ (OfNat.ofNat n:Rat)=tN n:=by
 rw[q93 (by simp)]
 simp only[Rat.num_ofNat]
 exact q0w n
theorem qdV{m n:Int}(h:m.natAbs≤n.natAbs):nl m≤nl n:=ko h
theorem qlQ{m n:Nat}(h:m≤n):dl m≤dl n:=ko h
theorem qnZ(n:Nat):nl (n:Int)=dl n:=rfl
theorem qwC(m n:Nat):dl (m*n)≤dl m+dl n:=qlL m n
theorem qvk(m n:Int):nl (m-n)≤max (nl m) (nl n)+1:=by
 rw[Int.sub_eq_add_neg]
 have:=qnR m (-n)
 rwa [qmW] at this
theorem qf4(N:Int)(D:Nat):nl (mkRat N D).num≤nl N∧dl (mkRat N D).den≤dl D:=by
 rw[Rat.num_mkRat,Rat.den_mkRat]
 by_cases h:D=0
 ·rw[if_pos h,if_pos h,h]
  exact⟨qdV (by simp),dl_mono' ⟩
 ·rw[if_neg h,if_neg h]
  exact⟨qdV (Int.natAbs_ediv_le_natAbs _ _),qlQ (Nat.div_le_self _ _)⟩
 where dl_mono':dl 1≤dl 0:=by decide
theorem qyc(a b:Rat):qn (a*b)≤qn a+qn b:=by
 unfold qn
 rw[Rat.mul_def']
 exact Nat.le_trans (qf4 _ _).1 (q1V _ _)
theorem qyl(a b:Rat):qd (a*b)≤qd a+qd b:=by
 unfold qd
 rw[Rat.mul_def']
 exact Nat.le_trans (qf4 _ _).2 (qwC _ _)
theorem qAc(a b:Rat):qn (a+b)≤max (qn a+qd b) (qn b+qd a)+1:=by
 unfold qn qd
 rw[Rat.add_def']
 have h1:=(qf4 (a.num*b.den+b.num*a.den) (a.den*b.den)).1
 have h2:=qnR (a.num*b.den) (b.num*a.den)
 have h3:=q1V a.num b.den
 have h4:=q1V b.num a.den
 rw[qnZ] at h3 h4
 omega
theorem qAx(a b:Rat):qd (a+b)≤qd a+qd b:=by
 unfold qd
 rw[Rat.add_def']
 exact Nat.le_trans (qf4 _ _).2 (qwC _ _)
theorem qzK(a b:Rat):qn (a-b)≤max (qn a+qd b) (qn b+qd a)+1:=by
 unfold qn qd
 rw[Rat.sub_def']
 have h1:=(qf4 (a.num*b.den-b.num*a.den) (a.den*b.den)).1
 have h2:=qvk (a.num*b.den) (b.num*a.den)
 have h3:=q1V a.num b.den
 have h4:=q1V b.num a.den
 rw[qnZ] at h3 h4
 omega
theorem qAh(a b:Rat):qd (a-b)≤qd a+qd b:=by
 unfold qd
 rw[Rat.sub_def']
 exact Nat.le_trans (qf4 _ _).2 (qwC _ _)
theorem qAd(a:Rat):qn (-a)=qn a:=by unfold qn;rw[Rat.neg_num,qmW]
theorem qhD(a:Rat):0<qn a:=ql4 _
theorem qor(a:Rat):0<qd a:=qfD _
theorem qzN{a:Rat}(h:a≠0):qn a⁻¹≤qd a:=by
 unfold qn qd
 rw[Rat.num_inv,←qnZ]
 apply qdV
 rw[Int.natAbs_mul,Int.natAbs_sign_of_ne_zero (by rwa [Ne,Rat.num_eq_zero])]
 simp
theorem qAw{a:Rat}(h:a≠0):qd a⁻¹≤qn a:=by
 unfold qn qd
 rw[Rat.den_inv,if_neg (by rwa [Rat.num_eq_zero])]
 exact Nat.le_refl _
theorem qAB(a:Rat){b:Rat}(h:b≠0):qn (a/b)≤qn a+qd b:=by
 rw[Rat.div_def]
 exact Nat.le_trans (qyc _ _) (Nat.add_le_add_left (qzN h) _)
theorem qzQ(a:Rat){b:Rat}(h:b≠0):qd (a/b)≤qd a+qn b:=by
 rw[Rat.div_def]
 exact Nat.le_trans (qyl _ _) (Nat.add_le_add_left (qAw h) _)
def sgq(q:Rat):Int:=sgn q.num
theorem qcO{m k:Int}(hk:0<k):sgn (m*k)=sgn m:=by
 unfold sgn
 rcases Int.lt_trichotomy m 0 with h|h|h
 ·have:=Int.mul_neg_of_neg_of_pos h hk
  rw[if_pos h,if_pos this]
 ·subst h;simp
 ·have:=Int.mul_pos h hk
  rw[if_neg (by omega),if_neg (by omega),if_neg (by omega),if_neg (by omega)]
theorem qyT(m:Int):sgn (-m)=-sgn m:=by
 unfold sgn
 rcases Int.lt_trichotomy m 0 with h|h|h
 ·rw[if_pos h,if_neg (by omega),if_neg (by omega)];rfl
 ·subst h;rfl
 ·rw[if_pos (by omega),if_neg (by omega),if_neg (by omega)]
theorem qs6{q:Rat}(h:0<q):sgq q=1:=by
 unfold sgq sgn
 have h1:0≤q.num:=Rat.num_nonneg.2 (Rat.le_of_lt h)
 have h2:q.num≠0:=fun e=>by rw[Rat.num_eq_zero] at e;rw[e] at h;exact Rat.lt_irrefl h
 rw[if_neg (by omega),if_neg h2]
theorem qvS(q:Rat):sgq (-q)=-sgq q:=by unfold sgq;rw[Rat.neg_num,qyT]
theorem qys{q:Rat}(h:q<0):sgq q=-1:=by
 have h1:0 < -q:=by grind
 have:=qs6 h1
 rw[qvS] at this
 omega
theorem q9l(q:Rat):(q<0∧sgq q=-1)∨(q=0∧sgq q=0)∨(0<q∧sgq q=1):=by
 by_cases h1:q<0
 ·exact .inl ⟨h1,qys h1⟩
 ·by_cases h2:q=0
  ·exact .inr (.inl ⟨h2,by rw[h2];rfl⟩)
  ·exact .inr (.inr ⟨by grind,qs6 (by grind)⟩)
theorem qf3(q:Rat):(sgq q≤0)=(q≤0):=by
 rcases q9l q with⟨h,e⟩|⟨h,e⟩|⟨h,e⟩<;>rw[e]<;>simp<;>grind
theorem qnV(q:Rat):(sgq q<0)=(q<0):=by
 rcases q9l q with⟨h,e⟩|⟨h,e⟩|⟨h,e⟩<;>rw[e]<;>simp<;>grind
end Go.Eng

namespace Go.Eng
def sP(s:List UInt8):Nat:=s.findIdx (·==47)
def spn(s:List UInt8):List UInt8:=s.take (sP s)
def spd(s:List UInt8):List UInt8:=if sP s<s.length then s.drop (sP s+1) else [49]
theorem qy9(s:List UInt8):sP s≤s.length:=List.findIdx_le_length
theorem qzk{s:List UInt8}{i:Nat}(h:i<s.length)(h1:s[i]=47)(h2:∀j (hj:j<i),s[j]≠47):sP s=i:=by
 unfold sP
 rw[List.findIdx_eq h]
 exact⟨by simp[h1],fun j hj=>by simp[h2 j hj]⟩
theorem qoN{s:List UInt8}(h:∀c,c∈s→c≠47):sP s=s.length:=by
 unfold sP
 rw[List.findIdx_eq_length]
 intro x hx
 simpa using h x hx
theorem qvi{s t:List UInt8}(h:∀c,c∈s→c≠47):sP (s++47::t)=s.length:=by
 apply qzk (by simp)
 ·simp
 ·intro j hj
  rw[List.getElem_append_left hj]
  exact h _ (List.getElem_mem hj)
theorem qwE(q:Rat):spn (tQ q)=tI q.num:=by
 unfold spn
 by_cases h:q.den=1
 ·rw[q93 h,qoN (qnK _),List.take_length]
 ·rw[q4Q h,qvi (qnK _)];simp
theorem qva(q:Rat):spd (tQ q)=tN q.den:=by
 unfold spd
 by_cases h:q.den=1
 ·rw[q93 h,qoN (qnK _),if_neg (Nat.lt_irrefl _),h];rfl
 ·rw[q4Q h,qvi (qnK _),if_pos (by simp)];simp
theorem qw9(s:List UInt8)(hl:s.length≤1000000000):(wT [.s s]).run=some (0,[.i (if sP s<s.length then (sP s:Int) else -1)]):=by
 rw[qnu]
 obtain⟨j,qs,h1,h2⟩:=jD (S:=ud) (fun k ps=>∃i:Nat,ps=[.s s,.i (i:Int)]∧i+k=s.length∧∀j (hj:j<i) (hj2:j<s.length),s[j]≠47)
  (fun j qs=>(¬sP s<s.length∧j=0∧qs=[])∨(sP s<s.length∧j=1∧qs=[.i (sP s:Int)])) (n:=s.length) (by omega) (fun k ps hk ⟨i,hps,hi,hd⟩=>by
  subst hps
  rw[qkr]
  by_cases hlt:i<s.length
  ·have a1:(i:Int)<qw s:=by unfold qw;omega
   have a2:(0:Int)≤(i:Int):=by omega
   have hs:=qgV hlt
   have hw:qt .i64 (i:Int) 1=((i+1:Nat):Int):=by rw[wi (by omega)];omega
   by_cases b1:s[i]=47
   ·right
    have e:=qzk hlt b1 (fun j hj=>hd j hj (by omega))
    have b2:(s[i].toNat:Int)=47:=by rw[b1];rfl
    refine⟨1,[.i (i:Int)],?_,.inr ⟨by rw[e];exact hlt,rfl,by rw[e]⟩⟩
    simp only[STD,a1,a2,hs,b2,and_self]
   ·left
    have b2:¬(s[i].toNat:Int)=47:=fun h=>b1 (UInt8.toNat_inj.1 (by show s[i].toNat=47;omega))
    refine⟨k-1,[.s s,.i ((i+1:Nat):Int)],by omega,?_,i+1,rfl,by omega,?_⟩
    ·simp only[STD,a1,a2,hs,b2,and_self,hw]
    ·intro j hj hj2
     rcases Nat.lt_or_ge j i with h|h
     ·exact hd j h hj2
     ·obtain rfl:j=i:=by omega
      exact b1
  ·right
   have a1:¬((i:Int)<qw s):=by unfold qw;omega
   refine⟨0,[],?_,.inl ⟨?_,rfl,rfl⟩⟩
   ·simp only[STD,a1]
   ·rw[qoN]
    ·omega
    ·intro c hc
     obtain⟨j,hj,rfl⟩:=List.mem_iff_getElem.1 hc
     exact hd j (by omega) hj) (ps:=[.s s,.i 0]) ⟨0,rfl,by omega,fun j hj=>by omega⟩
 rcases h2 with⟨h2,rfl,rfl⟩|⟨h2,rfl,rfl⟩
 ·rw[if_neg h2];simp only[STD,h1,zn h1]
 ·rw[if_pos h2];simp only[STD,h1,zn h1,show ¬(1=0) by omega]
theorem qv4(s:List UInt8)(hl:s.length≤1000000000):(qp [.s s]).run=some (0,[.s (spn s),.s (spd s)]):=by
 rw[qnj]
 have hs:=qw9 s hl
 have hle:=qy9 s
 unfold spd spn
 by_cases h:sP s<s.length
 ·rw[if_pos h] at hs ⊢
  have a1:¬((sP s:Int)<0):=by omega
  have a2:(sP s:Int)≤qw s:=by unfold qw;omega
  have hw:qt .i64 (sP s:Int) 1=((sP s+1:Nat):Int):=by rw[wi (by omega)];omega
  have a3:((sP s+1:Nat):Int)≤qw s:=by unfold qw;omega
  have e1:q5W s 0 (sP s:Int)=s.take (sP s):=by simp[q5W]
  have e2:q5W s ((sP s+1:Nat):Int) (qw s)=s.drop (sP s+1):=by
   unfold q5W qw
   simp only[Int.toNat_natCast,List.take_length]
  simp only[STD,hs,a1,a2,hw,a3,e1,e2,show (0:Int)≤(sP s:Int) by omega,show (0:Int)≤((sP s+1:Nat):Int) by omega,show (0:Int)≤qw s by unfold qw;omega,Int.le_refl,and_self]
 ·rw[if_neg h] at hs ⊢
  have e:s.take (sP s)=s:=List.take_of_length_le (by omega)
  rw[e]
  simp only[STD,hs,show (-1:Int)<0 by omega]
theorem qyk(q:Rat):(tQ q).length≤qn q+qd q+2:=by
 have h1:=qrk q.num
 unfold qn qd nl dl
 by_cases h:q.den=1
 ·rw[q93 h];omega
 ·rw[q4Q h];simp;omega
theorem qpn(q:Rat)(hn:qn q≤400000)(hd:qd q≤400000):(qp [.s (tQ q)]).run=some (0,[.s (tI q.num),.s (tI (q.den:Int))]):=by
 have:=qyk q
 rw[qv4 _ (by omega),qwE,qva,q0w]
theorem qw7(a b:Rat)(ha:qn a≤400000)(ha':qd a≤400000)(hb:qn b≤400000)(hb':qd b≤400000) :
  (zh [.s (tQ a),.s (tQ b)]).run=some (0,[.r [[.s (tI (a.num*b.den))],[.s (tI (b.num*a.den))],[.s (tI (a.den*b.den))],[.s (tI (a.num*b.num))],[.s (tI (a.den*b.num))]]]):=by
 rw[qkI]
 have t:=fun (m n:Int) (h1:nl m≤400000) (h2:nl n≤400000)=>qi0 m n (by omega) (by omega)
 simp only[STD,qpn a ha ha',qpn b hb hb',t a.num b.den ha hb',t b.num a.den hb ha',t a.den b.den ha' hb',t a.num b.num ha hb,t a.den b.num ha' hb]
theorem q4c(n:Nat):(tN n=[49])=(n=1):=by
 have:tN 1=[49]:=rfl
 rw[←this];exact propext ⟨fun h=>qop h,fun h=>by rw[h]⟩
theorem qxe(m n:Int)(hn:n≠0)(hm':nl m≤400000)(hn':nl n≤400000):(jU [.s (tI m),.s (tI n)]).run=some (0,[.s (tQ (Rat.divInt m n))]):=by
 rw[qlx]
 have hS:=qfW m n hm' hn'
 have hg0:0<Nat.gcd m.natAbs n.natAbs:=Nat.gcd_pos_of_pos_right _ (by omega)
 have hgn:Nat.gcd m.natAbs n.natAbs≤n.natAbs:=Nat.gcd_le_right _ (by omega)
 have hgl:(tN (Nat.gcd m.natAbs n.natAbs)).length≤400000:=Nat.le_trans (ko hgn) hn'
 have hnum:=Rat.num_divInt m n
 have hden:=Rat.den_divInt m n
 rw[if_neg hn] at hden
 have hgc:Int.gcd n m=Nat.gcd m.natAbs n.natAbs:=by unfold Int.gcd;exact Nat.gcd_comm _ _
 rw[hgc] at hnum hden
 obtain⟨k,hk⟩:((Nat.gcd m.natAbs n.natAbs:Nat):Int) ∣ m:=Int.ofNat_dvd_left.2 (Nat.gcd_dvd_left _ _)
 obtain⟨l,hl⟩:((Nat.gcd m.natAbs n.natAbs:Nat):Int) ∣ n:=Int.ofNat_dvd_left.2 (Nat.gcd_dvd_right _ _)
 generalize Nat.gcd m.natAbs n.natAbs=g at *
 generalize Rat.divInt m n=q at *
 have hB:=ja n
 have hm2:k*(g:Int)=m:=by rw[Int.mul_comm];exact hk.symm
 have hn2:l*(g:Int)=n:=by rw[Int.mul_comm];exact hl.symm
 have hql:nl q.num≤400000:=by
  refine Nat.le_trans (qdV ?_) hm'
  rw[hnum]
  refine Nat.le_trans (Int.natAbs_ediv_le_natAbs _ _) ?_
  rw[Int.natAbs_mul,Int.natAbs_sign_of_ne_zero hn];omega
 have hdl:(tN q.den).length≤400000:=by
  refine Nat.le_trans (ko ?_) hn'
  rw[hden];exact Nat.div_le_self _ _
 have hil:=qrk q.num
 have hil2:(tN q.num.natAbs).length≤400000:=hql
 have fin:(Tree.br (seq (tI (q.den:Int)) [49]) (Tree.leaf (0,[PV.s (tI q.num)])) (Tree.br (ile (qw (tI q.num)+qw [47]) 140737488355328) (Tree.br (ile (qw (q6K (tI q.num) [47])+qw (tI (q.den:Int))) 140737488355328)
   (Tree.leaf (0,[PV.s (q6K (q6K (tI q.num) [47]) (tI (q.den:Int)))])) Tree.fail) Tree.fail)).run=some (0,[PV.s (tQ q)]):=by
  rw[q0w]
  have a1:qw (tI q.num)+qw [47]≤140737488355328:=by unfold qw;simp;omega
  have a2:qw (q6K (tI q.num) [47])+qw (tN q.den)≤140737488355328:=by unfold qw q6K;simp;omega
  by_cases h1:q.den=1
  ·simp only[STD,zG,q4c,h1,q93 h1]
  ·simp only[STD,zG,q4c,h1,q4Q h1,a1,a2]
   simp[q6K]
 by_cases hneg:n<0
 ·have hT:=qaF (g:Int) (by simp only[Int.natAbs_natCast];omega)
  rw[q0w] at hT
  have e1:fq m (-(g:Int))=q.num:=by
   have:fq ((-k)*(-(g:Int))) (-(g:Int))=-k:=qkR (by omega)
   rw[show (-k)*(-(g:Int))=m by rw[Int.neg_mul_neg];exact hm2] at this
   rw[this,hnum,Int.sign_eq_neg_one_of_neg hneg,←hm2]
   rw[show (-1:Int)*(k*(g:Int))=(-k)*(g:Int) by rw[Int.neg_mul,Int.one_mul,Int.neg_mul]]
   exact(Int.mul_ediv_cancel _ (by omega)).symm
  have e2:fq n (-(g:Int))=(q.den:Int):=by
   have:fq ((-l)*(-(g:Int))) (-(g:Int))=-l:=qkR (by omega)
   rw[show (-l)*(-(g:Int))=n by rw[Int.neg_mul_neg];exact hn2] at this
   rw[this,hden]
   have h3:(n.natAbs:Int)=(-l)*(g:Int):=by rw[Int.neg_mul];omega
   rw[Int.natCast_ediv,h3,Int.mul_ediv_cancel _ (by omega)]
  have P1:=q3D m (-(g:Int)) (by omega) hm' (by rw[qmW];exact hgl)
  have P2:=q3D n (-(g:Int)) (by omega) hn' (by rw[qmW];exact hgl)
  rw[e1] at P1
  rw[e2] at P2
  simp only[STD,hS,hB,hneg,hT,P1,P2] at fin ⊢
  exact fin
 ·have e1:fq m (g:Int)=q.num:=by
   have:fq (k*(g:Int)) (g:Int)=k:=qkR (by omega)
   rw[hm2] at this
   rw[this,hnum,Int.sign_eq_one_of_pos (by omega),Int.one_mul,←hm2]
   exact(Int.mul_ediv_cancel _ (by omega)).symm
  have e2:fq n (g:Int)=(q.den:Int):=by
   have:fq (l*(g:Int)) (g:Int)=l:=qkR (by omega)
   rw[hn2] at this
   rw[this,hden]
   have h3:(n.natAbs:Int)=l*(g:Int):=by omega
   rw[Int.natCast_ediv,h3,Int.mul_ediv_cancel _ (by omega)]
  have P1:=q3D m (g:Int) (by omega) hm' hgl
  have P2:=q3D n (g:Int) (by omega) hn' hgl
  rw[e1,q0w] at P1
  rw[e2,q0w] at P2
  simp only[STD,hS,hB,hneg,P1,P2] at fin ⊢
  rw[q0w] at fin
  exact fin
def sm(K:Nat)(q:Rat):Prop:=qn q≤K∧qd q≤K
theorem qsD(a:Rat):(0:Int)<(a.den:Int):=by have:=a.den_nz;omega
theorem qqL{a b:Rat}(ha:sm 100000 a)(hb:sm 100000 b):(jq [.s (tQ a),.s (tQ b)]).run=some (0,[.s (tQ (a+b))]):=by
 rw[qoT]
 obtain⟨h1,h2⟩:=ha
 obtain⟨h3,h4⟩:=hb
 have hc:=qw7 a b (by omega) (by omega) (by omega) (by omega)
 simp only[qn,qd] at h1 h2 h3 h4
 have l1:=q1V a.num b.den
 have l2:=q1V b.num a.den
 have l3:=q1V a.den b.den
 rw[qnZ] at l1 l2 l3
 rw[qnZ] at l3
 have l4:=qnR (a.num*b.den) (b.num*a.den)
 have hP:=qkg (a.num*b.den) (b.num*a.den) (by omega) (by omega)
 have hL:=qxe (a.num*b.den+b.num*a.den) (a.den*b.den) (by have:=Int.mul_pos (qsD a) (qsD b);omega) (by omega) (by omega)
 have e:Rat.divInt (a.num*b.den+b.num*a.den) ((a.den:Int)*(b.den:Int))=a+b:=by
  rw[Rat.add_def',←Rat.divInt_ofNat];simp
 rw[e] at hL
 simp only[STD,hc,cS,jj,qL,List.length_cons,List.length_nil,Int.toNat_zero,List.getD_cons_zero,U.toS,show (1:Int).toNat=1 from rfl,show (2:Int).toNat=2 from rfl,List.getD_cons_succ,hP,hL]
 simp[]
theorem qnC{a:Rat}(ha:sm 100000 a):(jC [.s (tQ a)]).run=some (0,[.i (sgq a)]):=by
 rw[ql1]
 obtain⟨h1,h2⟩:=ha
 have hP:=qiX a.num 0 (by unfold qn at h1;omega) (by decide)
 rw[Int.sub_zero,show tI 0=[48] from rfl] at hP
 simp only[STD,qpn a (by omega) (by omega),hP]
 rfl
def qbQ(a b c:Rat):Int:=if 0≤sgq a*(sgq b*sgq c) then (if sgq a=0 then sgq b*sgq c else sgq a) else sgq a*sgq (a*a-b*b*c)
theorem qeA(q:Rat):-1≤sgq q∧sgq q≤1:=by rcases q9l q with⟨_,e⟩|⟨_,e⟩|⟨_,e⟩<;>rw[e]<;>decide
theorem qzU{x y:Int}(hx:-1≤x∧x≤1)(hy:-1≤y∧y≤1):-1≤x*y∧x*y≤1:=by
 have:=qAF (A:=1) (B:=1) hx.1 hx.2 hy.1 hy.2
 omega
theorem qjG{x y:Int}(hx:-1≤x∧x≤1)(hy:-1≤y∧y≤1):q0Q .i64 x y=x*y:=q8u (by have:=qzU hx hy;omega)
theorem qzg{K L:Nat}{a:Rat}(ha:sm K a)(h:K≤L):sm L a:=⟨Nat.le_trans ha.1 h,Nat.le_trans ha.2 h⟩
end Go.Eng

