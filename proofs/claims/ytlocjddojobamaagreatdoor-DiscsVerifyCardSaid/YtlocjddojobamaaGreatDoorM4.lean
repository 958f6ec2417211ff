/- Texts of the proof, merged: what the code computes, and plain laws. No statement stands here. -/
import Derived.OpenShut
import Derived.Deep.Slices
import Derived.SizedLaws
import Derived.Below
import Derived.Lib.LaidTab
import Derived.Test.YtlocjddojobamaaGreatDoorM3
namespace Go.Eng
theorem qeJ (y0:Int) (y1:Int) (y2:R):km [.i y0,.i y1,.r y2]=(.br (ilt y1 y0) (.br (inb y1 (qH y2)) (.br (ilt 12 (qF (cS y2 y1 0))) (.leaf (2,[(.b false)])) (.leaf (0,[(.i y0),(.i (qw .i64 y1 1)),(.r y2)]))) .fail) (.leaf (1,[]))):=by kernel_rfl
theorem qsh (x0:List UInt8) (x1:List UInt8) (x2:List UInt8):va [.s x0,.s x1,.s x2]=(.br (okR (qg km [(.i (qH [[(.s x0)],[(.s x1)],[(.s x2)]])),(.i 0),(.r [[(.s x0)],[(.s x1)],[(.s x2)]])])) (.br (jIs (qg km [(.i (qH [[(.s x0)],[(.s x1)],[(.s x2)]])),(.i 0),(.r [[(.s x0)],[(.s x1)],[(.s x2)]])]) 0) (.leaf (0,[(.b true)])) (.leaf (0,[(.b (gB (qg km [(.i (qH [[(.s x0)],[(.s x1)],[(.s x2)]])),(.i 0),(.r [[(.s x0)],[(.s x1)],[(.s x2)]])]) 0))]))) .fail):=by kernel_rfl
theorem q9r (x0:List UInt8) (x1:List UInt8):zN [.s x0,.s x1]=(.br (okR (zg [(.s x0),(.s x1)])) (.br (ile 0 (gI (zg [(.s x0),(.s x1)]) 0)) (.br (q7v (gI (zg [(.s x0),(.s x1)]) 0) (qF x0)) (.br (q7v 0 (gI (zg [(.s x0),(.s x1)]) 0)) (.br (q7v (qF x0) (qF x0)) (.br (q7v (qw .i64 (gI (zg [(.s x0),(.s x1)]) 0) (qF x1)) (qF x0)) (.leaf (0,[(.s (q70 x0 0 (gI (zg [(.s x0),(.s x1)]) 0))),(.s (q70 x0 (qw .i64 (gI (zg [(.s x0),(.s x1)]) 0) (qF x1)) (qF x0))),(.b true)])) .fail) .fail) .fail) .fail) (.leaf (0,[(.s x0),(.s []),(.b false)]))) .fail):=by kernel_rfl
theorem qrP (x0:List UInt8) (x1:List UInt8):jI [.s x0,.s x1]=(.br (okR (zN [(.s x0),(.s x1)])) (.leaf (0,[(.s (gS (zN [(.s x0),(.s x1)]) 0)),(.s (gS (zN [(.s x0),(.s x1)]) 1)),(.b (gB (zN [(.s x0),(.s x1)]) 2))])) .fail):=by kernel_rfl
theorem qvS (x0:List UInt8):q9 [.s x0]=(.br (okR (jI [(.s x0),(.s [47])])) (.br (not (gB (jI [(.s x0),(.s [47])]) 2)) (.leaf (0,[(.s (gS (jI [(.s x0),(.s [47])]) 0)),(.s [49]),(.b (gB (jI [(.s x0),(.s [47])]) 2))])) (.leaf (0,[(.s (gS (jI [(.s x0),(.s [47])]) 0)),(.s (gS (jI [(.s x0),(.s [47])]) 1)),(.b (gB (jI [(.s x0),(.s [47])]) 2))]))) .fail):=by kernel_rfl
theorem q5j (x0:List UInt8) (x1:List UInt8):zd [.s x0,.s x1]=(.br (ile (qF x1) (qF x0)) (.br (q7v (qF x1) (qF x0)) (.br (q7v 0 (qF x1)) (.leaf (0,[(.b (seq (q70 x0 0 (qF x1)) x1))])) .fail) .fail) (.leaf (0,[(.b false)]))):=by kernel_rfl
theorem q58 (x0:List UInt8) (x1:List UInt8):zH [.s x0,.s x1]=(.br (okR (zd [(.s x0),(.s x1)])) (.br (gB (zd [(.s x0),(.s x1)]) 0) (.br (q7v (qF x0) (qF x0)) (.br (q7v (qF x1) (qF x0)) (.leaf (0,[(.s (q70 x0 (qF x1) (qF x0)))])) .fail) .fail) (.leaf (0,[(.s x0)]))) .fail):=by kernel_rfl
theorem qgr (x0:List UInt8) (x1:List UInt8):qu [.s x0,.s x1]=(.br (okR (zH [(.s x0),(.s x1)])) (.leaf (0,[(.s (gS (zH [(.s x0),(.s x1)]) 0))])) .fail):=by kernel_rfl
theorem qrW (x0:List UInt8):qT [.s x0]=(.br (okR (qu [(.s x0),(.s [45])])) (.br (seq (gS (qu [(.s x0),(.s [45])]) 0) []) (.leaf (0,[(.i 3)])) (.br (okR (q4e [(.s (gS (qu [(.s x0),(.s [45])]) 0)),(.s [48,49,50,51,52,53,54,55,56,57])])) (.br (not (seq (gS (q4e [(.s (gS (qu [(.s x0),(.s [45])]) 0)),(.s [48,49,50,51,52,53,54,55,56,57])]) 0) [])) (.leaf (0,[(.i 3)])) (.br (inb 0 (qF (gS (qu [(.s x0),(.s [45])]) 0))) (.br (ieq (sat (gS (qu [(.s x0),(.s [45])]) 0) 0) 48) (.br (not (seq x0 [48])) (.leaf (0,[(.i 3)])) (.br (ilt 1024 (qF (gS (qu [(.s x0),(.s [45])]) 0))) (.leaf (0,[(.i 11)])) (.leaf (0,[(.i 0)])))) (.br (ilt 1024 (qF (gS (qu [(.s x0),(.s [45])]) 0))) (.leaf (0,[(.i 11)])) (.leaf (0,[(.i 0)])))) .fail)) .fail)) .fail):=by kernel_rfl
theorem qhs (y0:R) (y1:Int) (y2:Int):q1J [.r y0,.i y1,.i y2]=(.br (ilt y2 y1) (.br (inb y2 (qH y0)) (.br (okR (qT [(.s (cS y0 y2 0))])) (.br (ine (gI (qT [(.s (cS y0 y2 0))]) 0) 0) (.leaf (2,[(.i (gI (qT [(.s (cS y0 y2 0))]) 0))])) (.leaf (0,[(.r y0),(.i y1),(.i (qw .i64 y2 1))]))) .fail) .fail) (.leaf (1,[]))):=by kernel_rfl
theorem quQ (x0:R):zG [.r x0]=(.br (okR (qg q1J [(.r x0),(.i (qH x0)),(.i 0)])) (.br (jIs (qg q1J [(.r x0),(.i (qH x0)),(.i 0)]) 0) (.leaf (0,[(.i 0)])) (.leaf (0,[(.i (gI (qg q1J [(.r x0),(.i (qH x0)),(.i 0)]) 0))]))) .fail):=by kernel_rfl
theorem qu6 (x0:List UInt8):wu [.s x0]=(.br (seq x0 [48]) (.leaf (0,[(.i 0)])) (.br (inb 0 (qF x0)) (.br (ieq (sat x0 0) 45) (.leaf (0,[(.i (-1))])) (.leaf (0,[(.i 1)]))) .fail)):=by kernel_rfl
theorem qsj (x0:List UInt8) (x1:List UInt8):q3e [.s x0,.s x1]=(.br (ine (qF x0) (qF x1)) (.br (ilt (qF x0) (qF x1)) (.leaf (0,[(.i (-1))])) (.leaf (0,[(.i 1)]))) (.br (okR (q1x [(.s x0),(.s x1)])) (.leaf (0,[(.i (gI (q1x [(.s x0),(.s x1)]) 0))])) .fail)):=by kernel_rfl
theorem qnN (x0:List UInt8) (x1:List UInt8):uX [.s x0,.s x1]=(.br (okR (zG [(.r [[(.s x0)],[(.s x1)]])])) (.br (ine (gI (zG [(.r [[(.s x0)],[(.s x1)]])]) 0) 0) (.leaf (0,[(.i 0),(.i (gI (zG [(.r [[(.s x0)],[(.s x1)]])]) 0))])) (.br (okR (wu [(.s x0)])) (.br (okR (wu [(.s x1)])) (.br (ilt (gI (wu [(.s x0)]) 0) (gI (wu [(.s x1)]) 0)) (.leaf (0,[(.i (-1)),(.i 0)])) (.br (okR (wu [(.s x1)])) (.br (ilt (gI (wu [(.s x1)]) 0) (gI (wu [(.s x0)]) 0)) (.leaf (0,[(.i 1),(.i 0)])) (.br (okR (qu [(.s x0),(.s [45])])) (.br (okR (qu [(.s x1),(.s [45])])) (.br (okR (q3e [(.s (gS (qu [(.s x0),(.s [45])]) 0)),(.s (gS (qu [(.s x1),(.s [45])]) 0))])) (.leaf (0,[(.i (q0K .i64 (gI (wu [(.s x0)]) 0) (gI (q3e [(.s (gS (qu [(.s x0),(.s [45])]) 0)),(.s (gS (qu [(.s x1),(.s [45])]) 0))]) 0))),(.i 0)])) .fail) .fail) .fail)) .fail)) .fail) .fail)) .fail):=by kernel_rfl
theorem qdN (y0:Bool) (y1:Int) (y2:R):wJ [.b y0,.i y1,.r y2]=(.br (ilt 0 y1) (.br (inb (zi .i64 y1 1) 232) (.br (inb (zi .i64 y1 1) 232) (.br (ieq (cI y2 (zi .i64 y1 1) 0) 0) (.leaf (0,[(.b y0),(.i (zi .i64 y1 1)),(.r y2)])) (.leaf (1,[(.b y0),(.i y1),(.r y2)]))) .fail) .fail) (.leaf (1,[(.b y0),(.i y1),(.r y2)]))):=by kernel_rfl
theorem qfa (x0:Bool) (x1:Int) (x2:R):qP [.b x0,.i x1,.r x2]=(.br (okR (qg wJ [(.b x0),(.i x1),(.r x2)])) (.leaf (0,[(.b (gB (qg wJ [(.b x0),(.i x1),(.r x2)]) 0)),(.i (gI (qg wJ [(.b x0),(.i x1),(.r x2)]) 1)),(.r (gR (qg wJ [(.b x0),(.i x1),(.r x2)]) 2))])) .fail):=by kernel_rfl
theorem qp4 (y0:List UInt8) (y1:Bool) (y2:Int) (y3:R):zS [.s y0,.b y1,.i y2,.r y3]=(.br (ilt 0 (qF y0)) (.br (q7v (qF y0) (qF y0)) (.br (q7v (q9d 0 (zi .i64 (qF y0) 9)) (qF y0)) (.br (okR (j1 [(.s (q70 y0 (q9d 0 (zi .i64 (qF y0) 9)) (qF y0)))])) (.br (inb y2 232) (.br (inb y2 232) (.br (q7v (q9d 0 (zi .i64 (qF y0) 9)) (qF y0)) (.br (q7v 0 (q9d 0 (zi .i64 (qF y0) 9))) (.leaf (0,[(.s (q70 y0 0 (q9d 0 (zi .i64 (qF y0) 9)))),(.b y1),(.i (qw .i64 y2 1)),(.r (qdh y3 y2 0 [(.i (gI (j1 [(.s (q70 y0 (q9d 0 (zi .i64 (qF y0) 9)) (qF y0)))]) 0))]))])) .fail) .fail) .fail) .fail) .fail) .fail) .fail) (.leaf (1,[(.b y1),(.i y2),(.r y3)]))):=by kernel_rfl
theorem qu3 (x0:List UInt8):qo [.s x0]=(.br (inb 0 (qF x0)) (.br (okR (qu [(.s x0),(.s [45])])) (.br (okR (qg zS [(.s (gS (qu [(.s x0),(.s [45])]) 0)),(.b (ieq (sat x0 0) 45)),(.i 0),(.r (wh 232 [(.i 0)]))])) (.br (okR (qP [(.b (gB (qg zS [(.s (gS (qu [(.s x0),(.s [45])]) 0)),(.b (ieq (sat x0 0) 45)),(.i 0),(.r (wh 232 [(.i 0)]))]) 0)),(.i (gI (qg zS [(.s (gS (qu [(.s x0),(.s [45])]) 0)),(.b (ieq (sat x0 0) 45)),(.i 0),(.r (wh 232 [(.i 0)]))]) 1)),(.r (gR (qg zS [(.s (gS (qu [(.s x0),(.s [45])]) 0)),(.b (ieq (sat x0 0) 45)),(.i 0),(.r (wh 232 [(.i 0)]))]) 2))])) (.leaf (0,[(.b (gB (qP [(.b (gB (qg zS [(.s (gS (qu [(.s x0),(.s [45])]) 0)),(.b (ieq (sat x0 0) 45)),(.i 0),(.r (wh 232 [(.i 0)]))]) 0)),(.i (gI (qg zS [(.s (gS (qu [(.s x0),(.s [45])]) 0)),(.b (ieq (sat x0 0) 45)),(.i 0),(.r (wh 232 [(.i 0)]))]) 1)),(.r (gR (qg zS [(.s (gS (qu [(.s x0),(.s [45])]) 0)),(.b (ieq (sat x0 0) 45)),(.i 0),(.r (wh 232 [(.i 0)]))]) 2))]) 0)),(.i (gI (qP [(.b (gB (qg zS [(.s (gS (qu [(.s x0),(.s [45])]) 0)),(.b (ieq (sat x0 0) 45)),(.i 0),(.r (wh 232 [(.i 0)]))]) 0)),(.i (gI (qg zS [(.s (gS (qu [(.s x0),(.s [45])]) 0)),(.b (ieq (sat x0 0) 45)),(.i 0),(.r (wh 232 [(.i 0)]))]) 1)),(.r (gR (qg zS [(.s (gS (qu [(.s x0),(.s [45])]) 0)),(.b (ieq (sat x0 0) 45)),(.i 0),(.r (wh 232 [(.i 0)]))]) 2))]) 1)),(.r (gR (qP [(.b (gB (qg zS [(.s (gS (qu [(.s x0),(.s [45])]) 0)),(.b (ieq (sat x0 0) 45)),(.i 0),(.r (wh 232 [(.i 0)]))]) 0)),(.i (gI (qg zS [(.s (gS (qu [(.s x0),(.s [45])]) 0)),(.b (ieq (sat x0 0) 45)),(.i 0),(.r (wh 232 [(.i 0)]))]) 1)),(.r (gR (qg zS [(.s (gS (qu [(.s x0),(.s [45])]) 0)),(.b (ieq (sat x0 0) 45)),(.i 0),(.r (wh 232 [(.i 0)]))]) 2))]) 2))])) .fail) .fail) .fail) .fail):=by kernel_rfl
theorem qx1 (x0:Int):vV [.i x0]=(.br (okR (q3W [(.i x0)])) (.leaf (0,[(.s (gS (q3W [(.i x0)]) 0))])) .fail):=by kernel_rfl
theorem qf0 (y0:Int) (y1:Bool) (y2:Int) (y3:R) (y4:Bool) (y5:Int) (y6:R):qN [.i y0,.b y1,.i y2,.r y3,.b y4,.i y5,.r y6]=(.br (ile 0 y0) (.br (inb y0 232) (.br (inb y0 232) (.br (inb y0 232) (.br (inb y0 232) (.br (ine (cI y3 y0 0) (cI y6 y0 0)) (.br (inb y0 232) (.br (inb y0 232) (.br (inb y0 232) (.br (inb y0 232) (.leaf (2,[(.i (zi .i64 (cI y3 y0 0) (cI y6 y0 0))),(.b y1),(.i y2),(.r y3),(.b y4),(.i y5),(.r y6)])) .fail) .fail) .fail) .fail) (.leaf (0,[(.i (zi .i64 y0 1)),(.b y1),(.i y2),(.r y3),(.b y4),(.i y5),(.r y6)]))) .fail) .fail) .fail) .fail) (.leaf (1,[(.b y1),(.i y2),(.r y3),(.b y4),(.i y5),(.r y6)]))):=by kernel_rfl
theorem qhj (x0:Bool) (x1:Int) (x2:R) (x3:Bool) (x4:Int) (x5:R):v6 [.b x0,.i x1,.r x2,.b x3,.i x4,.r x5]=(.br (ine x1 x4) (.leaf (0,[(.i (zi .i64 x1 x4)),(.b x0),(.i x1),(.r x2),(.b x3),(.i x4),(.r x5)])) (.br (okR (qg qN [(.i (zi .i64 x1 1)),(.b x0),(.i x1),(.r x2),(.b x3),(.i x4),(.r x5)])) (.br (jIs (qg qN [(.i (zi .i64 x1 1)),(.b x0),(.i x1),(.r x2),(.b x3),(.i x4),(.r x5)]) 0) (.leaf (0,[(.i 0),(.b (gB (qg qN [(.i (zi .i64 x1 1)),(.b x0),(.i x1),(.r x2),(.b x3),(.i x4),(.r x5)]) 0)),(.i (gI (qg qN [(.i (zi .i64 x1 1)),(.b x0),(.i x1),(.r x2),(.b x3),(.i x4),(.r x5)]) 1)),(.r (gR (qg qN [(.i (zi .i64 x1 1)),(.b x0),(.i x1),(.r x2),(.b x3),(.i x4),(.r x5)]) 2)),(.b (gB (qg qN [(.i (zi .i64 x1 1)),(.b x0),(.i x1),(.r x2),(.b x3),(.i x4),(.r x5)]) 3)),(.i (gI (qg qN [(.i (zi .i64 x1 1)),(.b x0),(.i x1),(.r x2),(.b x3),(.i x4),(.r x5)]) 4)),(.r (gR (qg qN [(.i (zi .i64 x1 1)),(.b x0),(.i x1),(.r x2),(.b x3),(.i x4),(.r x5)]) 5))])) (.leaf (0,[(.i (gI (qg qN [(.i (zi .i64 x1 1)),(.b x0),(.i x1),(.r x2),(.b x3),(.i x4),(.r x5)]) 0)),(.b (gB (qg qN [(.i (zi .i64 x1 1)),(.b x0),(.i x1),(.r x2),(.b x3),(.i x4),(.r x5)]) 1)),(.i (gI (qg qN [(.i (zi .i64 x1 1)),(.b x0),(.i x1),(.r x2),(.b x3),(.i x4),(.r x5)]) 2)),(.r (gR (qg qN [(.i (zi .i64 x1 1)),(.b x0),(.i x1),(.r x2),(.b x3),(.i x4),(.r x5)]) 3)),(.b (gB (qg qN [(.i (zi .i64 x1 1)),(.b x0),(.i x1),(.r x2),(.b x3),(.i x4),(.r x5)]) 4)),(.i (gI (qg qN [(.i (zi .i64 x1 1)),(.b x0),(.i x1),(.r x2),(.b x3),(.i x4),(.r x5)]) 5)),(.r (gR (qg qN [(.i (zi .i64 x1 1)),(.b x0),(.i x1),(.r x2),(.b x3),(.i x4),(.r x5)]) 6))]))) .fail)):=by kernel_rfl
theorem qms (x0:Bool) (x1:Int) (x2:R) (x3:Bool) (x4:Int) (x5:R):ud [.b x0,.i x1,.r x2,.b x3,.i x4,.r x5]=(.br (ilt x4 0) (.br (ilt (zi .i64 x4 1) 0) (.br (ilt (zi .i64 x4 1) 0) (.br (ilt 1 x4) (.leaf (0,[(.i 1),(.b x0),(.i x1),(.r x2),(.b x3),(.i x4),(.r x5)])) .fail) (.br (ile x4 (zi .i64 x4 1)) (.br (ilt 1 x4) (.leaf (0,[(.i 1),(.b x0),(.i x1),(.r x2),(.b x3),(.i x4),(.r x5)])) .fail) (.br (inb (zi .i64 x4 1) 232) (.br (inb (zi .i64 x4 1) 232) (.br (ilt 1 x4) (.br (ine (qw .i64 (cI x5 (zi .i64 x4 1) 0) 1) 0) (.br (ilt 0 (uA .i64 0 (qw .i64 (cI x5 (zi .i64 x4 1) 0) 1))) (.leaf (0,[(.i (q9t (uA .i64 0 (qw .i64 (cI x5 (zi .i64 x4 1) 0) 1)) 999999999)),(.b x0),(.i x1),(.r x2),(.b x3),(.i x4),(.r x5)])) (.leaf (0,[(.i 1),(.b x0),(.i x1),(.r x2),(.b x3),(.i x4),(.r x5)]))) .fail) (.br (ine (cI x5 (zi .i64 x4 1) 0) 0) (.br (ilt 0 (uA .i64 0 (cI x5 (zi .i64 x4 1) 0))) (.leaf (0,[(.i (q9t (uA .i64 0 (cI x5 (zi .i64 x4 1) 0)) 999999999)),(.b x0),(.i x1),(.r x2),(.b x3),(.i x4),(.r x5)])) (.leaf (0,[(.i 1),(.b x0),(.i x1),(.r x2),(.b x3),(.i x4),(.r x5)]))) .fail)) .fail) .fail))) (.br (ile x1 (zi .i64 x4 1)) (.br (ilt (zi .i64 x4 1) 0) (.br (ilt 1 x4) (.leaf (0,[(.i 1),(.b x0),(.i x1),(.r x2),(.b x3),(.i x4),(.r x5)])) .fail) (.br (ile x4 (zi .i64 x4 1)) (.br (ilt 1 x4) (.leaf (0,[(.i 1),(.b x0),(.i x1),(.r x2),(.b x3),(.i x4),(.r x5)])) .fail) (.br (inb (zi .i64 x4 1) 232) (.br (inb (zi .i64 x4 1) 232) (.br (ilt 1 x4) (.br (ine (qw .i64 (cI x5 (zi .i64 x4 1) 0) 1) 0) (.br (ilt 0 (uA .i64 0 (qw .i64 (cI x5 (zi .i64 x4 1) 0) 1))) (.leaf (0,[(.i (q9t (uA .i64 0 (qw .i64 (cI x5 (zi .i64 x4 1) 0) 1)) 999999999)),(.b x0),(.i x1),(.r x2),(.b x3),(.i x4),(.r x5)])) (.leaf (0,[(.i 1),(.b x0),(.i x1),(.r x2),(.b x3),(.i x4),(.r x5)]))) .fail) (.br (ine (cI x5 (zi .i64 x4 1) 0) 0) (.br (ilt 0 (uA .i64 0 (cI x5 (zi .i64 x4 1) 0))) (.leaf (0,[(.i (q9t (uA .i64 0 (cI x5 (zi .i64 x4 1) 0)) 999999999)),(.b x0),(.i x1),(.r x2),(.b x3),(.i x4),(.r x5)])) (.leaf (0,[(.i 1),(.b x0),(.i x1),(.r x2),(.b x3),(.i x4),(.r x5)]))) .fail)) .fail) .fail))) (.br (inb (zi .i64 x4 1) 232) (.br (inb (zi .i64 x4 1) 232) (.br (ilt (zi .i64 x4 1) 0) (.br (ilt 1 x4) (.br (ilt 0 (uA .i64 (qw .i64 0 (cI x2 (zi .i64 x4 1) 0)) 1)) (.leaf (0,[(.i (q9t (uA .i64 (qw .i64 0 (cI x2 (zi .i64 x4 1) 0)) 1) 999999999)),(.b x0),(.i x1),(.r x2),(.b x3),(.i x4),(.r x5)])) (.leaf (0,[(.i 1),(.b x0),(.i x1),(.r x2),(.b x3),(.i x4),(.r x5)]))) .fail) (.br (ile x4 (zi .i64 x4 1)) (.br (ilt 1 x4) (.br (ilt 0 (uA .i64 (qw .i64 0 (cI x2 (zi .i64 x4 1) 0)) 1)) (.leaf (0,[(.i (q9t (uA .i64 (qw .i64 0 (cI x2 (zi .i64 x4 1) 0)) 1) 999999999)),(.b x0),(.i x1),(.r x2),(.b x3),(.i x4),(.r x5)])) (.leaf (0,[(.i 1),(.b x0),(.i x1),(.r x2),(.b x3),(.i x4),(.r x5)]))) .fail) (.br (inb (zi .i64 x4 1) 232) (.br (inb (zi .i64 x4 1) 232) (.br (ilt 1 x4) (.br (ine (qw .i64 (cI x5 (zi .i64 x4 1) 0) 1) 0) (.br (ilt 0 (uA .i64 (qw .i64 0 (cI x2 (zi .i64 x4 1) 0)) (qw .i64 (cI x5 (zi .i64 x4 1) 0) 1))) (.leaf (0,[(.i (q9t (uA .i64 (qw .i64 0 (cI x2 (zi .i64 x4 1) 0)) (qw .i64 (cI x5 (zi .i64 x4 1) 0) 1)) 999999999)),(.b x0),(.i x1),(.r x2),(.b x3),(.i x4),(.r x5)])) (.leaf (0,[(.i 1),(.b x0),(.i x1),(.r x2),(.b x3),(.i x4),(.r x5)]))) .fail) (.br (ine (cI x5 (zi .i64 x4 1) 0) 0) (.br (ilt 0 (uA .i64 (qw .i64 0 (cI x2 (zi .i64 x4 1) 0)) (cI x5 (zi .i64 x4 1) 0))) (.leaf (0,[(.i (q9t (uA .i64 (qw .i64 0 (cI x2 (zi .i64 x4 1) 0)) (cI x5 (zi .i64 x4 1) 0)) 999999999)),(.b x0),(.i x1),(.r x2),(.b x3),(.i x4),(.r x5)])) (.leaf (0,[(.i 1),(.b x0),(.i x1),(.r x2),(.b x3),(.i x4),(.r x5)]))) .fail)) .fail) .fail))) .fail) .fail))) (.br (ile x1 x4) (.br (ilt (zi .i64 x4 1) 0) (.br (ilt (zi .i64 x4 1) 0) (.br (ilt 1 x4) (.leaf (0,[(.i 1),(.b x0),(.i x1),(.r x2),(.b x3),(.i x4),(.r x5)])) .fail) (.br (ile x4 (zi .i64 x4 1)) (.br (ilt 1 x4) (.leaf (0,[(.i 1),(.b x0),(.i x1),(.r x2),(.b x3),(.i x4),(.r x5)])) .fail) (.br (inb (zi .i64 x4 1) 232) (.br (inb (zi .i64 x4 1) 232) (.br (ilt 1 x4) (.br (ine (qw .i64 (cI x5 (zi .i64 x4 1) 0) 1) 0) (.br (ilt 0 (uA .i64 0 (qw .i64 (cI x5 (zi .i64 x4 1) 0) 1))) (.leaf (0,[(.i (q9t (uA .i64 0 (qw .i64 (cI x5 (zi .i64 x4 1) 0) 1)) 999999999)),(.b x0),(.i x1),(.r x2),(.b x3),(.i x4),(.r x5)])) (.leaf (0,[(.i 1),(.b x0),(.i x1),(.r x2),(.b x3),(.i x4),(.r x5)]))) .fail) (.br (ine (cI x5 (zi .i64 x4 1) 0) 0) (.br (ilt 0 (uA .i64 0 (cI x5 (zi .i64 x4 1) 0))) (.leaf (0,[(.i (q9t (uA .i64 0 (cI x5 (zi .i64 x4 1) 0)) 999999999)),(.b x0),(.i x1),(.r x2),(.b x3),(.i x4),(.r x5)])) (.leaf (0,[(.i 1),(.b x0),(.i x1),(.r x2),(.b x3),(.i x4),(.r x5)]))) .fail)) .fail) .fail))) (.br (ile x1 (zi .i64 x4 1)) (.br (ilt (zi .i64 x4 1) 0) (.br (ilt 1 x4) (.leaf (0,[(.i 1),(.b x0),(.i x1),(.r x2),(.b x3),(.i x4),(.r x5)])) .fail) (.br (ile x4 (zi .i64 x4 1)) (.br (ilt 1 x4) (.leaf (0,[(.i 1),(.b x0),(.i x1),(.r x2),(.b x3),(.i x4),(.r x5)])) .fail) (.br (inb (zi .i64 x4 1) 232) (.br (inb (zi .i64 x4 1) 232) (.br (ilt 1 x4) (.br (ine (qw .i64 (cI x5 (zi .i64 x4 1) 0) 1) 0) (.br (ilt 0 (uA .i64 0 (qw .i64 (cI x5 (zi .i64 x4 1) 0) 1))) (.leaf (0,[(.i (q9t (uA .i64 0 (qw .i64 (cI x5 (zi .i64 x4 1) 0) 1)) 999999999)),(.b x0),(.i x1),(.r x2),(.b x3),(.i x4),(.r x5)])) (.leaf (0,[(.i 1),(.b x0),(.i x1),(.r x2),(.b x3),(.i x4),(.r x5)]))) .fail) (.br (ine (cI x5 (zi .i64 x4 1) 0) 0) (.br (ilt 0 (uA .i64 0 (cI x5 (zi .i64 x4 1) 0))) (.leaf (0,[(.i (q9t (uA .i64 0 (cI x5 (zi .i64 x4 1) 0)) 999999999)),(.b x0),(.i x1),(.r x2),(.b x3),(.i x4),(.r x5)])) (.leaf (0,[(.i 1),(.b x0),(.i x1),(.r x2),(.b x3),(.i x4),(.r x5)]))) .fail)) .fail) .fail))) (.br (inb (zi .i64 x4 1) 232) (.br (inb (zi .i64 x4 1) 232) (.br (ilt (zi .i64 x4 1) 0) (.br (ilt 1 x4) (.br (ilt 0 (uA .i64 (qw .i64 0 (cI x2 (zi .i64 x4 1) 0)) 1)) (.leaf (0,[(.i (q9t (uA .i64 (qw .i64 0 (cI x2 (zi .i64 x4 1) 0)) 1) 999999999)),(.b x0),(.i x1),(.r x2),(.b x3),(.i x4),(.r x5)])) (.leaf (0,[(.i 1),(.b x0),(.i x1),(.r x2),(.b x3),(.i x4),(.r x5)]))) .fail) (.br (ile x4 (zi .i64 x4 1)) (.br (ilt 1 x4) (.br (ilt 0 (uA .i64 (qw .i64 0 (cI x2 (zi .i64 x4 1) 0)) 1)) (.leaf (0,[(.i (q9t (uA .i64 (qw .i64 0 (cI x2 (zi .i64 x4 1) 0)) 1) 999999999)),(.b x0),(.i x1),(.r x2),(.b x3),(.i x4),(.r x5)])) (.leaf (0,[(.i 1),(.b x0),(.i x1),(.r x2),(.b x3),(.i x4),(.r x5)]))) .fail) (.br (inb (zi .i64 x4 1) 232) (.br (inb (zi .i64 x4 1) 232) (.br (ilt 1 x4) (.br (ine (qw .i64 (cI x5 (zi .i64 x4 1) 0) 1) 0) (.br (ilt 0 (uA .i64 (qw .i64 0 (cI x2 (zi .i64 x4 1) 0)) (qw .i64 (cI x5 (zi .i64 x4 1) 0) 1))) (.leaf (0,[(.i (q9t (uA .i64 (qw .i64 0 (cI x2 (zi .i64 x4 1) 0)) (qw .i64 (cI x5 (zi .i64 x4 1) 0) 1)) 999999999)),(.b x0),(.i x1),(.r x2),(.b x3),(.i x4),(.r x5)])) (.leaf (0,[(.i 1),(.b x0),(.i x1),(.r x2),(.b x3),(.i x4),(.r x5)]))) .fail) (.br (ine (cI x5 (zi .i64 x4 1) 0) 0) (.br (ilt 0 (uA .i64 (qw .i64 0 (cI x2 (zi .i64 x4 1) 0)) (cI x5 (zi .i64 x4 1) 0))) (.leaf (0,[(.i (q9t (uA .i64 (qw .i64 0 (cI x2 (zi .i64 x4 1) 0)) (cI x5 (zi .i64 x4 1) 0)) 999999999)),(.b x0),(.i x1),(.r x2),(.b x3),(.i x4),(.r x5)])) (.leaf (0,[(.i 1),(.b x0),(.i x1),(.r x2),(.b x3),(.i x4),(.r x5)]))) .fail)) .fail) .fail))) .fail) .fail))) (.br (inb x4 232) (.br (inb x4 232) (.br (ilt (zi .i64 x4 1) 0) (.br (ilt (zi .i64 x4 1) 0) (.br (ilt 1 x4) (.br (ilt 0 (uA .i64 (qw .i64 (q0K .i64 (cI x2 x4 0) 1000000000) 0) 1)) (.leaf (0,[(.i (q9t (uA .i64 (qw .i64 (q0K .i64 (cI x2 x4 0) 1000000000) 0) 1) 999999999)),(.b x0),(.i x1),(.r x2),(.b x3),(.i x4),(.r x5)])) (.leaf (0,[(.i 1),(.b x0),(.i x1),(.r x2),(.b x3),(.i x4),(.r x5)]))) .fail) (.br (ile x4 (zi .i64 x4 1)) (.br (ilt 1 x4) (.br (ilt 0 (uA .i64 (qw .i64 (q0K .i64 (cI x2 x4 0) 1000000000) 0) 1)) (.leaf (0,[(.i (q9t (uA .i64 (qw .i64 (q0K .i64 (cI x2 x4 0) 1000000000) 0) 1) 999999999)),(.b x0),(.i x1),(.r x2),(.b x3),(.i x4),(.r x5)])) (.leaf (0,[(.i 1),(.b x0),(.i x1),(.r x2),(.b x3),(.i x4),(.r x5)]))) .fail) (.br (inb (zi .i64 x4 1) 232) (.br (inb (zi .i64 x4 1) 232) (.br (ilt 1 x4) (.br (ine (qw .i64 (cI x5 (zi .i64 x4 1) 0) 1) 0) (.br (ilt 0 (uA .i64 (qw .i64 (q0K .i64 (cI x2 x4 0) 1000000000) 0) (qw .i64 (cI x5 (zi .i64 x4 1) 0) 1))) (.leaf (0,[(.i (q9t (uA .i64 (qw .i64 (q0K .i64 (cI x2 x4 0) 1000000000) 0) (qw .i64 (cI x5 (zi .i64 x4 1) 0) 1)) 999999999)),(.b x0),(.i x1),(.r x2),(.b x3),(.i x4),(.r x5)])) (.leaf (0,[(.i 1),(.b x0),(.i x1),(.r x2),(.b x3),(.i x4),(.r x5)]))) .fail) (.br (ine (cI x5 (zi .i64 x4 1) 0) 0) (.br (ilt 0 (uA .i64 (qw .i64 (q0K .i64 (cI x2 x4 0) 1000000000) 0) (cI x5 (zi .i64 x4 1) 0))) (.leaf (0,[(.i (q9t (uA .i64 (qw .i64 (q0K .i64 (cI x2 x4 0) 1000000000) 0) (cI x5 (zi .i64 x4 1) 0)) 999999999)),(.b x0),(.i x1),(.r x2),(.b x3),(.i x4),(.r x5)])) (.leaf (0,[(.i 1),(.b x0),(.i x1),(.r x2),(.b x3),(.i x4),(.r x5)]))) .fail)) .fail) .fail))) (.br (ile x1 (zi .i64 x4 1)) (.br (ilt (zi .i64 x4 1) 0) (.br (ilt 1 x4) (.br (ilt 0 (uA .i64 (qw .i64 (q0K .i64 (cI x2 x4 0) 1000000000) 0) 1)) (.leaf (0,[(.i (q9t (uA .i64 (qw .i64 (q0K .i64 (cI x2 x4 0) 1000000000) 0) 1) 999999999)),(.b x0),(.i x1),(.r x2),(.b x3),(.i x4),(.r x5)])) (.leaf (0,[(.i 1),(.b x0),(.i x1),(.r x2),(.b x3),(.i x4),(.r x5)]))) .fail) (.br (ile x4 (zi .i64 x4 1)) (.br (ilt 1 x4) (.br (ilt 0 (uA .i64 (qw .i64 (q0K .i64 (cI x2 x4 0) 1000000000) 0) 1)) (.leaf (0,[(.i (q9t (uA .i64 (qw .i64 (q0K .i64 (cI x2 x4 0) 1000000000) 0) 1) 999999999)),(.b x0),(.i x1),(.r x2),(.b x3),(.i x4),(.r x5)])) (.leaf (0,[(.i 1),(.b x0),(.i x1),(.r x2),(.b x3),(.i x4),(.r x5)]))) .fail) (.br (inb (zi .i64 x4 1) 232) (.br (inb (zi .i64 x4 1) 232) (.br (ilt 1 x4) (.br (ine (qw .i64 (cI x5 (zi .i64 x4 1) 0) 1) 0) (.br (ilt 0 (uA .i64 (qw .i64 (q0K .i64 (cI x2 x4 0) 1000000000) 0) (qw .i64 (cI x5 (zi .i64 x4 1) 0) 1))) (.leaf (0,[(.i (q9t (uA .i64 (qw .i64 (q0K .i64 (cI x2 x4 0) 1000000000) 0) (qw .i64 (cI x5 (zi .i64 x4 1) 0) 1)) 999999999)),(.b x0),(.i x1),(.r x2),(.b x3),(.i x4),(.r x5)])) (.leaf (0,[(.i 1),(.b x0),(.i x1),(.r x2),(.b x3),(.i x4),(.r x5)]))) .fail) (.br (ine (cI x5 (zi .i64 x4 1) 0) 0) (.br (ilt 0 (uA .i64 (qw .i64 (q0K .i64 (cI x2 x4 0) 1000000000) 0) (cI x5 (zi .i64 x4 1) 0))) (.leaf (0,[(.i (q9t (uA .i64 (qw .i64 (q0K .i64 (cI x2 x4 0) 1000000000) 0) (cI x5 (zi .i64 x4 1) 0)) 999999999)),(.b x0),(.i x1),(.r x2),(.b x3),(.i x4),(.r x5)])) (.leaf (0,[(.i 1),(.b x0),(.i x1),(.r x2),(.b x3),(.i x4),(.r x5)]))) .fail)) .fail) .fail))) (.br (inb (zi .i64 x4 1) 232) (.br (inb (zi .i64 x4 1) 232) (.br (ilt (zi .i64 x4 1) 0) (.br (ilt 1 x4) (.br (ilt 0 (uA .i64 (qw .i64 (q0K .i64 (cI x2 x4 0) 1000000000) (cI x2 (zi .i64 x4 1) 0)) 1)) (.leaf (0,[(.i (q9t (uA .i64 (qw .i64 (q0K .i64 (cI x2 x4 0) 1000000000) (cI x2 (zi .i64 x4 1) 0)) 1) 999999999)),(.b x0),(.i x1),(.r x2),(.b x3),(.i x4),(.r x5)])) (.leaf (0,[(.i 1),(.b x0),(.i x1),(.r x2),(.b x3),(.i x4),(.r x5)]))) .fail) (.br (ile x4 (zi .i64 x4 1)) (.br (ilt 1 x4) (.br (ilt 0 (uA .i64 (qw .i64 (q0K .i64 (cI x2 x4 0) 1000000000) (cI x2 (zi .i64 x4 1) 0)) 1)) (.leaf (0,[(.i (q9t (uA .i64 (qw .i64 (q0K .i64 (cI x2 x4 0) 1000000000) (cI x2 (zi .i64 x4 1) 0)) 1) 999999999)),(.b x0),(.i x1),(.r x2),(.b x3),(.i x4),(.r x5)])) (.leaf (0,[(.i 1),(.b x0),(.i x1),(.r x2),(.b x3),(.i x4),(.r x5)]))) .fail) (.br (inb (zi .i64 x4 1) 232) (.br (inb (zi .i64 x4 1) 232) (.br (ilt 1 x4) (.br (ine (qw .i64 (cI x5 (zi .i64 x4 1) 0) 1) 0) (.br (ilt 0 (uA .i64 (qw .i64 (q0K .i64 (cI x2 x4 0) 1000000000) (cI x2 (zi .i64 x4 1) 0)) (qw .i64 (cI x5 (zi .i64 x4 1) 0) 1))) (.leaf (0,[(.i (q9t (uA .i64 (qw .i64 (q0K .i64 (cI x2 x4 0) 1000000000) (cI x2 (zi .i64 x4 1) 0)) (qw .i64 (cI x5 (zi .i64 x4 1) 0) 1)) 999999999)),(.b x0),(.i x1),(.r x2),(.b x3),(.i x4),(.r x5)])) (.leaf (0,[(.i 1),(.b x0),(.i x1),(.r x2),(.b x3),(.i x4),(.r x5)]))) .fail) (.br (ine (cI x5 (zi .i64 x4 1) 0) 0) (.br (ilt 0 (uA .i64 (qw .i64 (q0K .i64 (cI x2 x4 0) 1000000000) (cI x2 (zi .i64 x4 1) 0)) (cI x5 (zi .i64 x4 1) 0))) (.leaf (0,[(.i (q9t (uA .i64 (qw .i64 (q0K .i64 (cI x2 x4 0) 1000000000) (cI x2 (zi .i64 x4 1) 0)) (cI x5 (zi .i64 x4 1) 0)) 999999999)),(.b x0),(.i x1),(.r x2),(.b x3),(.i x4),(.r x5)])) (.leaf (0,[(.i 1),(.b x0),(.i x1),(.r x2),(.b x3),(.i x4),(.r x5)]))) .fail)) .fail) .fail))) .fail) .fail))) .fail) .fail))):=by kernel_rfl
theorem q7l (y0:Int) (y1:Int) (y2:Int) (y3:Int) (y4:Bool) (y5:Int) (y6:R) (y7:Bool) (y8:Int) (y9:R):qK [.i y0,.i y1,.i y2,.i y3,.b y4,.i y5,.r y6,.b y7,.i y8,.r y9]=(.br (ilt y3 y8) (.br (inb (qw .i64 y3 y1) 232) (.br (inb (qw .i64 y3 y1) 232) (.br (ilt y3 y8) (.br (inb y3 232) (.br (inb y3 232) (.br (ilt (zi .i64 (qw .i64 (qw .i64 (cI y6 (qw .i64 y3 y1) 0) y2) (q0K .i64 y0 (cI y9 y3 0))) (q0K .i64 (uA .i64 (qw .i64 (qw .i64 (cI y6 (qw .i64 y3 y1) 0) y2) (q0K .i64 y0 (cI y9 y3 0))) 1000000000) 1000000000)) 0) (.br (inb (qw .i64 y3 y1) 232) (.br (inb (qw .i64 y3 y1) 232) (.leaf (0,[(.i y0),(.i y1),(.i (zi .i64 (uA .i64 (qw .i64 (qw .i64 (cI y6 (qw .i64 y3 y1) 0) y2) (q0K .i64 y0 (cI y9 y3 0))) 1000000000) 1)),(.i (qw .i64 y3 1)),(.b y4),(.i (q9d y5 (qw .i64 (qw .i64 y3 y1) 1))),(.r (qdh y6 (qw .i64 y3 y1) 0 [(.i (qw .i64 (zi .i64 (qw .i64 (qw .i64 (cI y6 (qw .i64 y3 y1) 0) y2) (q0K .i64 y0 (cI y9 y3 0))) (q0K .i64 (uA .i64 (qw .i64 (qw .i64 (cI y6 (qw .i64 y3 y1) 0) y2) (q0K .i64 y0 (cI y9 y3 0))) 1000000000) 1000000000)) 1000000000))])),(.b y7),(.i y8),(.r y9)])) .fail) .fail) (.br (inb (qw .i64 y3 y1) 232) (.br (inb (qw .i64 y3 y1) 232) (.leaf (0,[(.i y0),(.i y1),(.i (uA .i64 (qw .i64 (qw .i64 (cI y6 (qw .i64 y3 y1) 0) y2) (q0K .i64 y0 (cI y9 y3 0))) 1000000000)),(.i (qw .i64 y3 1)),(.b y4),(.i (q9d y5 (qw .i64 (qw .i64 y3 y1) 1))),(.r (qdh y6 (qw .i64 y3 y1) 0 [(.i (zi .i64 (qw .i64 (qw .i64 (cI y6 (qw .i64 y3 y1) 0) y2) (q0K .i64 y0 (cI y9 y3 0))) (q0K .i64 (uA .i64 (qw .i64 (qw .i64 (cI y6 (qw .i64 y3 y1) 0) y2) (q0K .i64 y0 (cI y9 y3 0))) 1000000000) 1000000000)))])),(.b y7),(.i y8),(.r y9)])) .fail) .fail)) .fail) .fail) (.br (ilt (zi .i64 (qw .i64 (cI y6 (qw .i64 y3 y1) 0) y2) (q0K .i64 (uA .i64 (qw .i64 (cI y6 (qw .i64 y3 y1) 0) y2) 1000000000) 1000000000)) 0) (.br (inb (qw .i64 y3 y1) 232) (.br (inb (qw .i64 y3 y1) 232) (.leaf (0,[(.i y0),(.i y1),(.i (zi .i64 (uA .i64 (qw .i64 (cI y6 (qw .i64 y3 y1) 0) y2) 1000000000) 1)),(.i (qw .i64 y3 1)),(.b y4),(.i (q9d y5 (qw .i64 (qw .i64 y3 y1) 1))),(.r (qdh y6 (qw .i64 y3 y1) 0 [(.i (qw .i64 (zi .i64 (qw .i64 (cI y6 (qw .i64 y3 y1) 0) y2) (q0K .i64 (uA .i64 (qw .i64 (cI y6 (qw .i64 y3 y1) 0) y2) 1000000000) 1000000000)) 1000000000))])),(.b y7),(.i y8),(.r y9)])) .fail) .fail) (.br (inb (qw .i64 y3 y1) 232) (.br (inb (qw .i64 y3 y1) 232) (.leaf (0,[(.i y0),(.i y1),(.i (uA .i64 (qw .i64 (cI y6 (qw .i64 y3 y1) 0) y2) 1000000000)),(.i (qw .i64 y3 1)),(.b y4),(.i (q9d y5 (qw .i64 (qw .i64 y3 y1) 1))),(.r (qdh y6 (qw .i64 y3 y1) 0 [(.i (zi .i64 (qw .i64 (cI y6 (qw .i64 y3 y1) 0) y2) (q0K .i64 (uA .i64 (qw .i64 (cI y6 (qw .i64 y3 y1) 0) y2) 1000000000) 1000000000)))])),(.b y7),(.i y8),(.r y9)])) .fail) .fail))) .fail) .fail) (.br (ine y2 0) (.br (inb (qw .i64 y3 y1) 232) (.br (inb (qw .i64 y3 y1) 232) (.br (ilt y3 y8) (.br (inb y3 232) (.br (inb y3 232) (.br (ilt (zi .i64 (qw .i64 (qw .i64 (cI y6 (qw .i64 y3 y1) 0) y2) (q0K .i64 y0 (cI y9 y3 0))) (q0K .i64 (uA .i64 (qw .i64 (qw .i64 (cI y6 (qw .i64 y3 y1) 0) y2) (q0K .i64 y0 (cI y9 y3 0))) 1000000000) 1000000000)) 0) (.br (inb (qw .i64 y3 y1) 232) (.br (inb (qw .i64 y3 y1) 232) (.leaf (0,[(.i y0),(.i y1),(.i (zi .i64 (uA .i64 (qw .i64 (qw .i64 (cI y6 (qw .i64 y3 y1) 0) y2) (q0K .i64 y0 (cI y9 y3 0))) 1000000000) 1)),(.i (qw .i64 y3 1)),(.b y4),(.i (q9d y5 (qw .i64 (qw .i64 y3 y1) 1))),(.r (qdh y6 (qw .i64 y3 y1) 0 [(.i (qw .i64 (zi .i64 (qw .i64 (qw .i64 (cI y6 (qw .i64 y3 y1) 0) y2) (q0K .i64 y0 (cI y9 y3 0))) (q0K .i64 (uA .i64 (qw .i64 (qw .i64 (cI y6 (qw .i64 y3 y1) 0) y2) (q0K .i64 y0 (cI y9 y3 0))) 1000000000) 1000000000)) 1000000000))])),(.b y7),(.i y8),(.r y9)])) .fail) .fail) (.br (inb (qw .i64 y3 y1) 232) (.br (inb (qw .i64 y3 y1) 232) (.leaf (0,[(.i y0),(.i y1),(.i (uA .i64 (qw .i64 (qw .i64 (cI y6 (qw .i64 y3 y1) 0) y2) (q0K .i64 y0 (cI y9 y3 0))) 1000000000)),(.i (qw .i64 y3 1)),(.b y4),(.i (q9d y5 (qw .i64 (qw .i64 y3 y1) 1))),(.r (qdh y6 (qw .i64 y3 y1) 0 [(.i (zi .i64 (qw .i64 (qw .i64 (cI y6 (qw .i64 y3 y1) 0) y2) (q0K .i64 y0 (cI y9 y3 0))) (q0K .i64 (uA .i64 (qw .i64 (qw .i64 (cI y6 (qw .i64 y3 y1) 0) y2) (q0K .i64 y0 (cI y9 y3 0))) 1000000000) 1000000000)))])),(.b y7),(.i y8),(.r y9)])) .fail) .fail)) .fail) .fail) (.br (ilt (zi .i64 (qw .i64 (cI y6 (qw .i64 y3 y1) 0) y2) (q0K .i64 (uA .i64 (qw .i64 (cI y6 (qw .i64 y3 y1) 0) y2) 1000000000) 1000000000)) 0) (.br (inb (qw .i64 y3 y1) 232) (.br (inb (qw .i64 y3 y1) 232) (.leaf (0,[(.i y0),(.i y1),(.i (zi .i64 (uA .i64 (qw .i64 (cI y6 (qw .i64 y3 y1) 0) y2) 1000000000) 1)),(.i (qw .i64 y3 1)),(.b y4),(.i (q9d y5 (qw .i64 (qw .i64 y3 y1) 1))),(.r (qdh y6 (qw .i64 y3 y1) 0 [(.i (qw .i64 (zi .i64 (qw .i64 (cI y6 (qw .i64 y3 y1) 0) y2) (q0K .i64 (uA .i64 (qw .i64 (cI y6 (qw .i64 y3 y1) 0) y2) 1000000000) 1000000000)) 1000000000))])),(.b y7),(.i y8),(.r y9)])) .fail) .fail) (.br (inb (qw .i64 y3 y1) 232) (.br (inb (qw .i64 y3 y1) 232) (.leaf (0,[(.i y0),(.i y1),(.i (uA .i64 (qw .i64 (cI y6 (qw .i64 y3 y1) 0) y2) 1000000000)),(.i (qw .i64 y3 1)),(.b y4),(.i (q9d y5 (qw .i64 (qw .i64 y3 y1) 1))),(.r (qdh y6 (qw .i64 y3 y1) 0 [(.i (zi .i64 (qw .i64 (cI y6 (qw .i64 y3 y1) 0) y2) (q0K .i64 (uA .i64 (qw .i64 (cI y6 (qw .i64 y3 y1) 0) y2) 1000000000) 1000000000)))])),(.b y7),(.i y8),(.r y9)])) .fail) .fail))) .fail) .fail) (.leaf (1,[(.b y4),(.i y5),(.r y6),(.b y7),(.i y8),(.r y9)])))):=by kernel_rfl
theorem qjs (x0:Int) (x1:Int) (x2:Bool) (x3:Int) (x4:R) (x5:Bool) (x6:Int) (x7:R):qZ [.i x0,.i x1,.b x2,.i x3,.r x4,.b x5,.i x6,.r x7]=(.br (okR (qg qK [(.i x0),(.i x1),(.i 0),(.i 0),(.b x2),(.i x3),(.r x4),(.b x5),(.i x6),(.r x7)])) (.br (okR (qP [(.b (gB (qg qK [(.i x0),(.i x1),(.i 0),(.i 0),(.b x2),(.i x3),(.r x4),(.b x5),(.i x6),(.r x7)]) 0)),(.i (gI (qg qK [(.i x0),(.i x1),(.i 0),(.i 0),(.b x2),(.i x3),(.r x4),(.b x5),(.i x6),(.r x7)]) 1)),(.r (gR (qg qK [(.i x0),(.i x1),(.i 0),(.i 0),(.b x2),(.i x3),(.r x4),(.b x5),(.i x6),(.r x7)]) 2))])) (.leaf (0,[(.b (gB (qP [(.b (gB (qg qK [(.i x0),(.i x1),(.i 0),(.i 0),(.b x2),(.i x3),(.r x4),(.b x5),(.i x6),(.r x7)]) 0)),(.i (gI (qg qK [(.i x0),(.i x1),(.i 0),(.i 0),(.b x2),(.i x3),(.r x4),(.b x5),(.i x6),(.r x7)]) 1)),(.r (gR (qg qK [(.i x0),(.i x1),(.i 0),(.i 0),(.b x2),(.i x3),(.r x4),(.b x5),(.i x6),(.r x7)]) 2))]) 0)),(.i (gI (qP [(.b (gB (qg qK [(.i x0),(.i x1),(.i 0),(.i 0),(.b x2),(.i x3),(.r x4),(.b x5),(.i x6),(.r x7)]) 0)),(.i (gI (qg qK [(.i x0),(.i x1),(.i 0),(.i 0),(.b x2),(.i x3),(.r x4),(.b x5),(.i x6),(.r x7)]) 1)),(.r (gR (qg qK [(.i x0),(.i x1),(.i 0),(.i 0),(.b x2),(.i x3),(.r x4),(.b x5),(.i x6),(.r x7)]) 2))]) 1)),(.r (gR (qP [(.b (gB (qg qK [(.i x0),(.i x1),(.i 0),(.i 0),(.b x2),(.i x3),(.r x4),(.b x5),(.i x6),(.r x7)]) 0)),(.i (gI (qg qK [(.i x0),(.i x1),(.i 0),(.i 0),(.b x2),(.i x3),(.r x4),(.b x5),(.i x6),(.r x7)]) 1)),(.r (gR (qg qK [(.i x0),(.i x1),(.i 0),(.i 0),(.b x2),(.i x3),(.r x4),(.b x5),(.i x6),(.r x7)]) 2))]) 2)),(.b (gB (qg qK [(.i x0),(.i x1),(.i 0),(.i 0),(.b x2),(.i x3),(.r x4),(.b x5),(.i x6),(.r x7)]) 3)),(.i (gI (qg qK [(.i x0),(.i x1),(.i 0),(.i 0),(.b x2),(.i x3),(.r x4),(.b x5),(.i x6),(.r x7)]) 4)),(.r (gR (qg qK [(.i x0),(.i x1),(.i 0),(.i 0),(.b x2),(.i x3),(.r x4),(.b x5),(.i x6),(.r x7)]) 5))])) .fail) .fail):=by kernel_rfl
theorem qje (y0:Int) (y1:Int) (y2:Bool) (y3:Int) (y4:R) (y5:Bool) (y6:Int) (y7:R) (y8:Bool) (y9:Int) (y10:R) (y11:Bool) (y12:Int) (y13:R):yV [.i y0,.i y1,.b y2,.i y3,.r y4,.b y5,.i y6,.r y7,.b y8,.i y9,.r y10,.b y11,.i y12,.r y13]=(let r0:TR:=(v6 [(.b y11),(.i y12),(.r y13),(.b y5),(.i y6),(.r y7)])
 .br (okR r0) (.br (ile 0 (gI r0 0)) (let r1:TR:=(ud [(.b (gB r0 1)),(.i (gI r0 2)),(.r (gR r0 3)),(.b (gB r0 4)),(.i (gI r0 5)),(.r (gR r0 6))])
 .br (okR r1) (let r2:TR:=(qZ [(.i (zi .i64 0 (gI r1 0))),(.i 0),(.b (gB r1 1)),(.i (gI r1 2)),(.r (gR r1 3)),(.b (gB r1 4)),(.i (gI r1 5)),(.r (gR r1 6))])
 .br (okR r2) (.leaf (0,[(.i y0),(.i (qw .i64 y1 (gI r1 0))),(.b y2),(.i y3),(.r y4),(.b (gB r2 3)),(.i (gI r2 4)),(.r (gR r2 5)),(.b y8),(.i y9),(.r y10),(.b (gB r2 0)),(.i (gI r2 1)),(.r (gR r2 2))])) .fail) .fail) (.leaf (1,[(.i y0),(.i y1),(.b y2),(.i y3),(.r y4),(.b (gB r0 4)),(.i (gI r0 5)),(.r (gR r0 6)),(.b y8),(.i y9),(.r y10),(.b (gB r0 1)),(.i (gI r0 2)),(.r (gR r0 3))]))) .fail):=by kernel_rfl
theorem qkp (y0:Int) (y1:Bool) (y2:Int) (y3:R) (y4:Bool) (y5:Int) (y6:R) (y7:Bool) (y8:Int) (y9:R) (y10:Bool) (y11:Int) (y12:R):q1j [.i y0,.b y1,.i y2,.r y3,.b y4,.i y5,.r y6,.b y7,.i y8,.r y9,.b y10,.i y11,.r y12]=(.br (ile 0 y0) (.br (q7v 232 232) (.br (q7v 1 232) (.br (q7v y11 232) (.br (q7v 0 y11) (.br (inb y0 232) (.br (inb y0 232) (let r0:TR:=(qP [(.b y10),(.i (qw .i64 y11 1)),(.r (qdh (qkc y12 1 y12 0 (q9t (qxi y11 0) (qxi 232 1))) 0 0 [(.i (cI y3 y0 0))]))])
 .br (okR r0) (let r1:TR:=(qg yV [(.i y0),(.i 0),(.b y1),(.i y2),(.r y3),(.b y4),(.i y5),(.r y6),(.b y7),(.i y8),(.r y9),(.b (gB r0 0)),(.i (gI r0 1)),(.r (gR r0 2))])
 .br (okR r1) (.br (inb (gI r1 0) 232) (.br (inb (gI r1 0) 232) (.leaf (0,[(.i (zi .i64 (gI r1 0) 1)),(.b (gB r1 2)),(.i (gI r1 3)),(.r (gR r1 4)),(.b (gB r1 5)),(.i (gI r1 6)),(.r (gR r1 7)),(.b (gB r1 8)),(.i (q9d (gI r1 9) (qw .i64 (gI r1 0) 1))),(.r (qdh (gR r1 10) (gI r1 0) 0 [(.i (gI r1 1))])),(.b (gB r1 11)),(.i (gI r1 12)),(.r (gR r1 13))])) .fail) .fail) .fail) .fail) .fail) .fail) .fail) .fail) .fail) .fail) (.leaf (1,[(.b y1),(.i y2),(.r y3),(.b y4),(.i y5),(.r y6),(.b y7),(.i y8),(.r y9),(.b y10),(.i y11),(.r y12)]))):=by kernel_rfl
theorem qnw (x0:Bool) (x1:Int) (x2:R) (x3:Bool) (x4:Int) (x5:R):zf [.b x0,.i x1,.r x2,.b x3,.i x4,.r x5]=(let r0:TR:=(qg q1j [(.i (zi .i64 x1 1)),(.b x0),(.i x1),(.r x2),(.b x3),(.i x4),(.r x5),(.b false),(.i 0),(.r (wh 232 [(.i 0)])),(.b false),(.i 0),(.r (wh 232 [(.i 0)]))])
 .br (okR r0) (let r1:TR:=(qP [(.b (gB r0 6)),(.i (gI r0 7)),(.r (gR r0 8))])
 .br (okR r1) (.leaf (0,[(.b (gB r0 0)),(.i (gI r0 1)),(.r (gR r0 2)),(.b (gB r0 3)),(.i (gI r0 4)),(.r (gR r0 5)),(.b (gB r1 0)),(.i (gI r1 1)),(.r (gR r1 2)),(.b (gB r0 9)),(.i (gI r0 10)),(.r (gR r0 11))])) .fail) .fail):=by kernel_rfl
theorem qq2 (y0:Int) (y1:Int):uH [.i y0,.i y1]=(.br (ine y1 0) (.br (ine y1 0) (.leaf (0,[(.i y1),(.i (q69 y0 y1))])) .fail) (.leaf (1,[(.i y0)]))):=by kernel_rfl
theorem qs8 (y0:Bool) (y1:Int) (y2:R) (y3:Bool) (y4:Int) (y5:R):ji [.b y0,.i y1,.r y2,.b y3,.i y4,.r y5]=(.br (ilt 0 y4) (.br (ile y1 1) (.br (ile y4 1) (.br (okR (qg uH [(.i (cI y2 0 0)),(.i (cI y5 0 0))])) (.br (okR (vV [(.i (gI (qg uH [(.i (cI y2 0 0)),(.i (cI y5 0 0))]) 0))])) (.leaf (2,[(.s (gS (vV [(.i (gI (qg uH [(.i (cI y2 0 0)),(.i (cI y5 0 0))]) 0))]) 0)),(.i 0)])) .fail) .fail) (.br (okR (zf [(.b y0),(.i y1),(.r y2),(.b y3),(.i y4),(.r y5)])) (.leaf (0,[(.b (gB (zf [(.b y0),(.i y1),(.r y2),(.b y3),(.i y4),(.r y5)]) 3)),(.i (gI (zf [(.b y0),(.i y1),(.r y2),(.b y3),(.i y4),(.r y5)]) 4)),(.r (gR (zf [(.b y0),(.i y1),(.r y2),(.b y3),(.i y4),(.r y5)]) 5)),(.b (gB (zf [(.b y0),(.i y1),(.r y2),(.b y3),(.i y4),(.r y5)]) 9)),(.i (gI (zf [(.b y0),(.i y1),(.r y2),(.b y3),(.i y4),(.r y5)]) 10)),(.r (gR (zf [(.b y0),(.i y1),(.r y2),(.b y3),(.i y4),(.r y5)]) 11))])) .fail)) (.br (okR (zf [(.b y0),(.i y1),(.r y2),(.b y3),(.i y4),(.r y5)])) (.leaf (0,[(.b (gB (zf [(.b y0),(.i y1),(.r y2),(.b y3),(.i y4),(.r y5)]) 3)),(.i (gI (zf [(.b y0),(.i y1),(.r y2),(.b y3),(.i y4),(.r y5)]) 4)),(.r (gR (zf [(.b y0),(.i y1),(.r y2),(.b y3),(.i y4),(.r y5)]) 5)),(.b (gB (zf [(.b y0),(.i y1),(.r y2),(.b y3),(.i y4),(.r y5)]) 9)),(.i (gI (zf [(.b y0),(.i y1),(.r y2),(.b y3),(.i y4),(.r y5)]) 10)),(.r (gR (zf [(.b y0),(.i y1),(.r y2),(.b y3),(.i y4),(.r y5)]) 11))])) .fail)) (.leaf (1,[(.b y0),(.i y1),(.r y2)]))):=by kernel_rfl
theorem qvb (x0:List UInt8) (x1:List UInt8):jQ [.s x0,.s x1]=(.br (okR (zG [(.r [[(.s x0)],[(.s x1)]])])) (.br (ine (gI (zG [(.r [[(.s x0)],[(.s x1)]])]) 0) 0) (.leaf (0,[(.s []),(.i (gI (zG [(.r [[(.s x0)],[(.s x1)]])]) 0))])) (.br (okR (qo [(.s x0)])) (.br (okR (qo [(.s x1)])) (.br (okR (qg ji [(.b (gB (qo [(.s x0)]) 0)),(.i (gI (qo [(.s x0)]) 1)),(.r (gR (qo [(.s x0)]) 2)),(.b (gB (qo [(.s x1)]) 0)),(.i (gI (qo [(.s x1)]) 1)),(.r (gR (qo [(.s x1)]) 2))])) (.br (jIs (qg ji [(.b (gB (qo [(.s x0)]) 0)),(.i (gI (qo [(.s x0)]) 1)),(.r (gR (qo [(.s x0)]) 2)),(.b (gB (qo [(.s x1)]) 0)),(.i (gI (qo [(.s x1)]) 1)),(.r (gR (qo [(.s x1)]) 2))]) 0) (.br (okR (qJ [(.b false),(.i (gI (qg ji [(.b (gB (qo [(.s x0)]) 0)),(.i (gI (qo [(.s x0)]) 1)),(.r (gR (qo [(.s x0)]) 2)),(.b (gB (qo [(.s x1)]) 0)),(.i (gI (qo [(.s x1)]) 1)),(.r (gR (qo [(.s x1)]) 2))]) 1)),(.r (gR (qg ji [(.b (gB (qo [(.s x0)]) 0)),(.i (gI (qo [(.s x0)]) 1)),(.r (gR (qo [(.s x0)]) 2)),(.b (gB (qo [(.s x1)]) 0)),(.i (gI (qo [(.s x1)]) 1)),(.r (gR (qo [(.s x1)]) 2))]) 2))])) (.leaf (0,[(.s (gS (qJ [(.b false),(.i (gI (qg ji [(.b (gB (qo [(.s x0)]) 0)),(.i (gI (qo [(.s x0)]) 1)),(.r (gR (qo [(.s x0)]) 2)),(.b (gB (qo [(.s x1)]) 0)),(.i (gI (qo [(.s x1)]) 1)),(.r (gR (qo [(.s x1)]) 2))]) 1)),(.r (gR (qg ji [(.b (gB (qo [(.s x0)]) 0)),(.i (gI (qo [(.s x0)]) 1)),(.r (gR (qo [(.s x0)]) 2)),(.b (gB (qo [(.s x1)]) 0)),(.i (gI (qo [(.s x1)]) 1)),(.r (gR (qo [(.s x1)]) 2))]) 2))]) 0)),(.i 0)])) .fail) (.leaf (0,[(.s (gS (qg ji [(.b (gB (qo [(.s x0)]) 0)),(.i (gI (qo [(.s x0)]) 1)),(.r (gR (qo [(.s x0)]) 2)),(.b (gB (qo [(.s x1)]) 0)),(.i (gI (qo [(.s x1)]) 1)),(.r (gR (qo [(.s x1)]) 2))]) 0)),(.i (gI (qg ji [(.b (gB (qo [(.s x0)]) 0)),(.i (gI (qo [(.s x0)]) 1)),(.r (gR (qo [(.s x0)]) 2)),(.b (gB (qo [(.s x1)]) 0)),(.i (gI (qo [(.s x1)]) 1)),(.r (gR (qo [(.s x1)]) 2))]) 1))]))) .fail) .fail) .fail)) .fail):=by kernel_rfl
theorem qsl (x0:List UInt8):zt [.s x0]=(.br (okR (q9 [(.s x0)])) (.br (okR (qT [(.s (gS (q9 [(.s x0)]) 0))])) (.br (okR (qT [(.s (gS (q9 [(.s x0)]) 1))])) (.br (ieq (gI (qT [(.s (gS (q9 [(.s x0)]) 0))]) 0) 3) (.leaf (0,[(.i 3)])) (.br (ieq (gI (qT [(.s (gS (q9 [(.s x0)]) 1))]) 0) 3) (.leaf (0,[(.i 3)])) (.br (ine (gI (qT [(.s (gS (q9 [(.s x0)]) 0))]) 0) 0) (.leaf (0,[(.i (q9d (gI (qT [(.s (gS (q9 [(.s x0)]) 0))]) 0) (gI (qT [(.s (gS (q9 [(.s x0)]) 1))]) 0)))])) (.br (ine (gI (qT [(.s (gS (q9 [(.s x0)]) 1))]) 0) 0) (.leaf (0,[(.i (q9d (gI (qT [(.s (gS (q9 [(.s x0)]) 0))]) 0) (gI (qT [(.s (gS (q9 [(.s x0)]) 1))]) 0)))])) (.br (not (gB (q9 [(.s x0)]) 2)) (.leaf (0,[(.i 0)])) (.br (okR (uX [(.s (gS (q9 [(.s x0)]) 1)),(.s [49])])) (.br (okR (jQ [(.s (gS (q9 [(.s x0)]) 0)),(.s (gS (q9 [(.s x0)]) 1))])) (.br (ine (gI (uX [(.s (gS (q9 [(.s x0)]) 1)),(.s [49])]) 1) 0) (.leaf (0,[(.i 3)])) (.br (ine (gI (jQ [(.s (gS (q9 [(.s x0)]) 0)),(.s (gS (q9 [(.s x0)]) 1))]) 1) 0) (.leaf (0,[(.i 3)])) (.br (ile (gI (uX [(.s (gS (q9 [(.s x0)]) 1)),(.s [49])]) 0) 0) (.leaf (0,[(.i 3)])) (.br (not (seq (gS (jQ [(.s (gS (q9 [(.s x0)]) 0)),(.s (gS (q9 [(.s x0)]) 1))]) 0) [49])) (.leaf (0,[(.i 3)])) (.leaf (0,[(.i 0)])))))) .fail) .fail)))))) .fail) .fail) .fail):=by kernel_rfl
theorem q4x (y0:Int) (y1:Int) (y2:List UInt8) (y3:List UInt8) (y4:List UInt8) (y5:R):jD [.i y0,.i y1,.s y2,.s y3,.s y4,.r y5]=(.br (ilt y1 y0) (.br (inb y1 (qH y5)) (.br (okR (zt [(.s (cS y5 y1 0))])) (.br (ine (gI (zt [(.s (cS y5 y1 0))]) 0) 0) (.leaf (2,[(.i (gI (zt [(.s (cS y5 y1 0))]) 0))])) (.leaf (0,[(.i y0),(.i (qw .i64 y1 1)),(.s y2),(.s y3),(.s y4),(.r y5)]))) .fail) .fail) (.leaf (1,[(.s y2),(.s y3),(.s y4)]))):=by kernel_rfl
theorem qrM (x0:List UInt8) (x1:List UInt8) (x2:List UInt8):zA [.s x0,.s x1,.s x2]=(.br (okR (qg jD [(.i (qH [[(.s x0)],[(.s x1)],[(.s x2)]])),(.i 0),(.s x0),(.s x1),(.s x2),(.r [[(.s x0)],[(.s x1)],[(.s x2)]])])) (.br (jIs (qg jD [(.i (qH [[(.s x0)],[(.s x1)],[(.s x2)]])),(.i 0),(.s x0),(.s x1),(.s x2),(.r [[(.s x0)],[(.s x1)],[(.s x2)]])]) 0) (.br (inb 0 (qF (gS (qg jD [(.i (qH [[(.s x0)],[(.s x1)],[(.s x2)]])),(.i 0),(.s x0),(.s x1),(.s x2),(.r [[(.s x0)],[(.s x1)],[(.s x2)]])]) 2))) (.br (ieq (sat (gS (qg jD [(.i (qH [[(.s x0)],[(.s x1)],[(.s x2)]])),(.i 0),(.s x0),(.s x1),(.s x2),(.r [[(.s x0)],[(.s x1)],[(.s x2)]])]) 2) 0) 45) (.leaf (0,[(.i 2)])) (.leaf (0,[(.i 0)]))) .fail) (.leaf (0,[(.i (gI (qg jD [(.i (qH [[(.s x0)],[(.s x1)],[(.s x2)]])),(.i 0),(.s x0),(.s x1),(.s x2),(.r [[(.s x0)],[(.s x1)],[(.s x2)]])]) 0))]))) .fail):=by kernel_rfl
theorem qrh (x0:List UInt8) (x1:List UInt8):wK [.s x0,.s x1]=(.br (ilt 9 (qF x0)) (.leaf (0,[(.i 0),(.i 0),(.b false)])) (.br (ilt 9 (qF x1)) (.leaf (0,[(.i 0),(.i 0),(.b false)])) (.br (okR (j1 [(.s x0)])) (.br (okR (j1 [(.s x1)])) (.leaf (0,[(.i (gI (j1 [(.s x0)]) 0)),(.i (gI (j1 [(.s x1)]) 0)),(.b true)])) .fail) .fail))):=by kernel_rfl
theorem qqy (x0:Int):yF [.i x0]=(.br (okR (vV [(.i x0)])) (.leaf (0,[(.s (gS (vV [(.i x0)]) 0)),(.i 0)])) .fail):=by kernel_rfl
theorem qfC (x0:Bool) (x1:Int) (x2:R):wd [.b x0,.i x1,.r x2]=(.br (okR (qJ [(.b x0),(.i x1),(.r x2)])) (.br (okR (qT [(.s (gS (qJ [(.b x0),(.i x1),(.r x2)]) 0))])) (.br (ine (gI (qT [(.s (gS (qJ [(.b x0),(.i x1),(.r x2)]) 0))]) 0) 0) (.leaf (0,[(.s []),(.i (gI (qT [(.s (gS (qJ [(.b x0),(.i x1),(.r x2)]) 0))]) 0)),(.b (gB (qJ [(.b x0),(.i x1),(.r x2)]) 1)),(.i (gI (qJ [(.b x0),(.i x1),(.r x2)]) 2)),(.r (gR (qJ [(.b x0),(.i x1),(.r x2)]) 3))])) (.leaf (0,[(.s (gS (qJ [(.b x0),(.i x1),(.r x2)]) 0)),(.i 0),(.b (gB (qJ [(.b x0),(.i x1),(.r x2)]) 1)),(.i (gI (qJ [(.b x0),(.i x1),(.r x2)]) 2)),(.r (gR (qJ [(.b x0),(.i x1),(.r x2)]) 3))]))) .fail) .fail):=by kernel_rfl
theorem qjD (x0:Bool) (x1:Int) (x2:R) (x3:Bool) (x4:Int) (x5:R):wl [.b x0,.i x1,.r x2,.b x3,.i x4,.r x5]=(.br (beq x0 x3) (let r0:TR:=(qZ [(.i 1),(.i 0),(.b x0),(.i x1),(.r x2),(.b x3),(.i x4),(.r x5)])
 .br (okR r0) (.leaf (0,[(.b (gB r0 0)),(.i (gI r0 1)),(.r (gR r0 2)),(.b (gB r0 3)),(.i (gI r0 4)),(.r (gR r0 5))])) .fail) (let r0:TR:=(v6 [(.b x0),(.i x1),(.r x2),(.b x3),(.i x4),(.r x5)])
 .br (okR r0) (.br (ile 0 (gI r0 0)) (let r1:TR:=(qZ [(.i (-1)),(.i 0),(.b (gB r0 1)),(.i (gI r0 2)),(.r (gR r0 3)),(.b (gB r0 4)),(.i (gI r0 5)),(.r (gR r0 6))])
 .br (okR r1) (.leaf (0,[(.b (gB r1 0)),(.i (gI r1 1)),(.r (gR r1 2)),(.b (gB r1 3)),(.i (gI r1 4)),(.r (gR r1 5))])) .fail) (let r1:TR:=(qZ [(.i (-1)),(.i 0),(.b (gB r0 4)),(.i (gI r0 5)),(.r (gR r0 6)),(.b (gB r0 1)),(.i (gI r0 2)),(.r (gR r0 3))])
 .br (okR r1) (.leaf (0,[(.b (gB r1 0)),(.i (gI r1 1)),(.r (gR r1 2)),(.b (gB r0 4)),(.i (gI r0 5)),(.r (gR r0 6))])) .fail)) .fail)):=by kernel_rfl
theorem qc0 (y0:R) (y1:Int) (y2:Int) (y3:Bool) (y4:Int) (y5:R):vk [.r y0,.i y1,.i y2,.b y3,.i y4,.r y5]=(.br (ilt y2 y1) (.br (inb y2 (qH y0)) (.br (okR (qo [(.s (cS y0 y2 0))])) (.br (okR (wl [(.b y3),(.i y4),(.r y5),(.b (gB (qo [(.s (cS y0 y2 0))]) 0)),(.i (gI (qo [(.s (cS y0 y2 0))]) 1)),(.r (gR (qo [(.s (cS y0 y2 0))]) 2))])) (.leaf (0,[(.r y0),(.i y1),(.i (qw .i64 y2 1)),(.b (gB (wl [(.b y3),(.i y4),(.r y5),(.b (gB (qo [(.s (cS y0 y2 0))]) 0)),(.i (gI (qo [(.s (cS y0 y2 0))]) 1)),(.r (gR (qo [(.s (cS y0 y2 0))]) 2))]) 0)),(.i (gI (wl [(.b y3),(.i y4),(.r y5),(.b (gB (qo [(.s (cS y0 y2 0))]) 0)),(.i (gI (qo [(.s (cS y0 y2 0))]) 1)),(.r (gR (qo [(.s (cS y0 y2 0))]) 2))]) 1)),(.r (gR (wl [(.b y3),(.i y4),(.r y5),(.b (gB (qo [(.s (cS y0 y2 0))]) 0)),(.i (gI (qo [(.s (cS y0 y2 0))]) 1)),(.r (gR (qo [(.s (cS y0 y2 0))]) 2))]) 2))])) .fail) .fail) .fail) (.leaf (1,[(.b y3),(.i y4),(.r y5)]))):=by kernel_rfl
theorem qvH (x0:R):q4D [.r x0]=(.br (okR (qg vk [(.r x0),(.i (qH x0)),(.i 0),(.b false),(.i 0),(.r (wh 232 [(.i 0)]))])) (.br (okR (wd [(.b (gB (qg vk [(.r x0),(.i (qH x0)),(.i 0),(.b false),(.i 0),(.r (wh 232 [(.i 0)]))]) 0)),(.i (gI (qg vk [(.r x0),(.i (qH x0)),(.i 0),(.b false),(.i 0),(.r (wh 232 [(.i 0)]))]) 1)),(.r (gR (qg vk [(.r x0),(.i (qH x0)),(.i 0),(.b false),(.i 0),(.r (wh 232 [(.i 0)]))]) 2))])) (.leaf (0,[(.s (gS (wd [(.b (gB (qg vk [(.r x0),(.i (qH x0)),(.i 0),(.b false),(.i 0),(.r (wh 232 [(.i 0)]))]) 0)),(.i (gI (qg vk [(.r x0),(.i (qH x0)),(.i 0),(.b false),(.i 0),(.r (wh 232 [(.i 0)]))]) 1)),(.r (gR (qg vk [(.r x0),(.i (qH x0)),(.i 0),(.b false),(.i 0),(.r (wh 232 [(.i 0)]))]) 2))]) 0)),(.i (gI (wd [(.b (gB (qg vk [(.r x0),(.i (qH x0)),(.i 0),(.b false),(.i 0),(.r (wh 232 [(.i 0)]))]) 0)),(.i (gI (qg vk [(.r x0),(.i (qH x0)),(.i 0),(.b false),(.i 0),(.r (wh 232 [(.i 0)]))]) 1)),(.r (gR (qg vk [(.r x0),(.i (qH x0)),(.i 0),(.b false),(.i 0),(.r (wh 232 [(.i 0)]))]) 2))]) 1))])) .fail) .fail):=by kernel_rfl
theorem qvQ (x0:List UInt8) (x1:List UInt8):jO [.s x0,.s x1]=(.br (okR (zG [(.r [[(.s x0)],[(.s x1)]])])) (.br (ine (gI (zG [(.r [[(.s x0)],[(.s x1)]])]) 0) 0) (.leaf (0,[(.s []),(.i (gI (zG [(.r [[(.s x0)],[(.s x1)]])]) 0))])) (.br (okR (wK [(.s x0),(.s x1)])) (.br (gB (wK [(.s x0),(.s x1)]) 2) (.br (okR (yF [(.i (qw .i64 (gI (wK [(.s x0),(.s x1)]) 0) (gI (wK [(.s x0),(.s x1)]) 1)))])) (.leaf (0,[(.s (gS (yF [(.i (qw .i64 (gI (wK [(.s x0),(.s x1)]) 0) (gI (wK [(.s x0),(.s x1)]) 1)))]) 0)),(.i (gI (yF [(.i (qw .i64 (gI (wK [(.s x0),(.s x1)]) 0) (gI (wK [(.s x0),(.s x1)]) 1)))]) 1))])) .fail) (.br (okR (q4D [(.r [[(.s x0)],[(.s x1)]])])) (.leaf (0,[(.s (gS (q4D [(.r [[(.s x0)],[(.s x1)]])]) 0)),(.i (gI (q4D [(.r [[(.s x0)],[(.s x1)]])]) 1))])) .fail)) .fail)) .fail):=by kernel_rfl
theorem qmL (x0:List UInt8):jZ [.s x0]=(.br (okR (wu [(.s x0)])) (.br (ieq (gI (wu [(.s x0)]) 0) 0) (.leaf (0,[(.s x0)])) (.br (ieq (gI (wu [(.s x0)]) 0) 1) (.br (ile ((qF [45])+(qF x0)) 140737488355328) (.leaf (0,[(.s (q7O [45] x0))])) .fail) (.br (q7v (qF x0) (qF x0)) (.br (q7v 1 (qF x0)) (.leaf (0,[(.s (q70 x0 1 (qF x0)))])) .fail) .fail))) .fail):=by kernel_rfl
theorem qvY (x0:List UInt8) (x1:List UInt8):q0s [.s x0,.s x1]=(.br (okR (zG [(.r [[(.s x0)],[(.s x1)]])])) (.br (ine (gI (zG [(.r [[(.s x0)],[(.s x1)]])]) 0) 0) (.leaf (0,[(.s []),(.i (gI (zG [(.r [[(.s x0)],[(.s x1)]])]) 0))])) (.br (okR (jZ [(.s x1)])) (.br (okR (jO [(.s x0),(.s (gS (jZ [(.s x1)]) 0))])) (.leaf (0,[(.s (gS (jO [(.s x0),(.s (gS (jZ [(.s x1)]) 0))]) 0)),(.i (gI (jO [(.s x0),(.s (gS (jZ [(.s x1)]) 0))]) 1))])) .fail) .fail)) .fail):=by kernel_rfl
theorem qaN (x0:List UInt8) (x1:List UInt8) (x2:Int):wG [.s x0,.s x1,.i x2]=(.br (ine x2 0) (.leaf (0,[(.s [48]),(.i x2)])) (.br (okR (q0s [(.s x0),(.s x1)])) (.br (ine (gI (q0s [(.s x0),(.s x1)]) 1) 0) (.leaf (0,[(.s [48]),(.i (gI (q0s [(.s x0),(.s x1)]) 1))])) (.leaf (0,[(.s (gS (q0s [(.s x0),(.s x1)]) 0)),(.i (gI (q0s [(.s x0),(.s x1)]) 1))]))) .fail)):=by kernel_rfl
theorem qlH (x0:List UInt8) (x1:List UInt8) (x2:Int):zE [.s x0,.s x1,.i x2]=(.br (okR (wG [(.s x0),(.s x1),(.i x2)])) (.leaf (0,[(.s (gS (wG [(.s x0),(.s x1),(.i x2)]) 0)),(.i (gI (wG [(.s x0),(.s x1),(.i x2)]) 1))])) .fail):=by kernel_rfl
theorem qgh (y0:Int) (y1:Int) (y2:Bool) (y3:Int) (y4:R) (y5:Bool) (y6:Int) (y7:R) (y8:Bool) (y9:Int) (y10:R):zv [.i y0,.i y1,.b y2,.i y3,.r y4,.b y5,.i y6,.r y7,.b y8,.i y9,.r y10]=(.br (ilt y1 y0) (.br (inb y1 232) (.br (inb y1 232) (.br (okR (qZ [(.i (cI y7 y1 0)),(.i y1),(.b y8),(.i y9),(.r y10),(.b y2),(.i y3),(.r y4)])) (.leaf (0,[(.i y0),(.i (qw .i64 y1 1)),(.b (gB (qZ [(.i (cI y7 y1 0)),(.i y1),(.b y8),(.i y9),(.r y10),(.b y2),(.i y3),(.r y4)]) 3)),(.i (gI (qZ [(.i (cI y7 y1 0)),(.i y1),(.b y8),(.i y9),(.r y10),(.b y2),(.i y3),(.r y4)]) 4)),(.r (gR (qZ [(.i (cI y7 y1 0)),(.i y1),(.b y8),(.i y9),(.r y10),(.b y2),(.i y3),(.r y4)]) 5)),(.b y5),(.i y6),(.r y7),(.b (gB (qZ [(.i (cI y7 y1 0)),(.i y1),(.b y8),(.i y9),(.r y10),(.b y2),(.i y3),(.r y4)]) 0)),(.i (gI (qZ [(.i (cI y7 y1 0)),(.i y1),(.b y8),(.i y9),(.r y10),(.b y2),(.i y3),(.r y4)]) 1)),(.r (gR (qZ [(.i (cI y7 y1 0)),(.i y1),(.b y8),(.i y9),(.r y10),(.b y2),(.i y3),(.r y4)]) 2))])) .fail) .fail) .fail) (.leaf (1,[(.b y2),(.i y3),(.r y4),(.b y5),(.i y6),(.r y7),(.b y8),(.i y9),(.r y10)]))):=by kernel_rfl
theorem qj8 (x0:Bool) (x1:Int) (x2:R) (x3:Bool) (x4:Int) (x5:R):q00 [.b x0,.i x1,.r x2,.b x3,.i x4,.r x5]=(.br (okR (qg zv [(.i x4),(.i 0),(.b x0),(.i x1),(.r x2),(.b x3),(.i x4),(.r x5),(.b (not (beq x0 x3))),(.i 0),(.r (wh 232 [(.i 0)]))])) (.leaf (0,[(.b (gB (qg zv [(.i x4),(.i 0),(.b x0),(.i x1),(.r x2),(.b x3),(.i x4),(.r x5),(.b (not (beq x0 x3))),(.i 0),(.r (wh 232 [(.i 0)]))]) 0)),(.i (gI (qg zv [(.i x4),(.i 0),(.b x0),(.i x1),(.r x2),(.b x3),(.i x4),(.r x5),(.b (not (beq x0 x3))),(.i 0),(.r (wh 232 [(.i 0)]))]) 1)),(.r (gR (qg zv [(.i x4),(.i 0),(.b x0),(.i x1),(.r x2),(.b x3),(.i x4),(.r x5),(.b (not (beq x0 x3))),(.i 0),(.r (wh 232 [(.i 0)]))]) 2)),(.b (gB (qg zv [(.i x4),(.i 0),(.b x0),(.i x1),(.r x2),(.b x3),(.i x4),(.r x5),(.b (not (beq x0 x3))),(.i 0),(.r (wh 232 [(.i 0)]))]) 3)),(.i (gI (qg zv [(.i x4),(.i 0),(.b x0),(.i x1),(.r x2),(.b x3),(.i x4),(.r x5),(.b (not (beq x0 x3))),(.i 0),(.r (wh 232 [(.i 0)]))]) 4)),(.r (gR (qg zv [(.i x4),(.i 0),(.b x0),(.i x1),(.r x2),(.b x3),(.i x4),(.r x5),(.b (not (beq x0 x3))),(.i 0),(.r (wh 232 [(.i 0)]))]) 5)),(.b (gB (qg zv [(.i x4),(.i 0),(.b x0),(.i x1),(.r x2),(.b x3),(.i x4),(.r x5),(.b (not (beq x0 x3))),(.i 0),(.r (wh 232 [(.i 0)]))]) 6)),(.i (gI (qg zv [(.i x4),(.i 0),(.b x0),(.i x1),(.r x2),(.b x3),(.i x4),(.r x5),(.b (not (beq x0 x3))),(.i 0),(.r (wh 232 [(.i 0)]))]) 7)),(.r (gR (qg zv [(.i x4),(.i 0),(.b x0),(.i x1),(.r x2),(.b x3),(.i x4),(.r x5),(.b (not (beq x0 x3))),(.i 0),(.r (wh 232 [(.i 0)]))]) 8))])) .fail):=by kernel_rfl
theorem qvs (x0:List UInt8) (x1:List UInt8):kr [.s x0,.s x1]=(let r0:TR:=(zG [(.r [[(.s x0)],[(.s x1)]])])
 .br (okR r0) (.br (ine (gI r0 0) 0) (.leaf (0,[(.s []),(.i (gI r0 0))])) (let r1:TR:=(wK [(.s x0),(.s x1)])
 .br (okR r1) (.br (gB r1 2) (let r2:TR:=(yF [(.i (q0K .i64 (gI r1 0) (gI r1 1)))])
 .br (okR r2) (.leaf (0,[(.s (gS r2 0)),(.i (gI r2 1))])) .fail) (let r2:TR:=(qo [(.s x0)])
 .br (okR r2) (let r3:TR:=(qo [(.s x1)])
 .br (okR r3) (let r4:TR:=(q00 [(.b (gB r2 0)),(.i (gI r2 1)),(.r (gR r2 2)),(.b (gB r3 0)),(.i (gI r3 1)),(.r (gR r3 2))])
 .br (okR r4) (let r5:TR:=(wd [(.b (gB r4 6)),(.i (gI r4 7)),(.r (gR r4 8))])
 .br (okR r5) (.leaf (0,[(.s (gS r5 0)),(.i (gI r5 1))])) .fail) .fail) .fail) .fail)) .fail)) .fail):=by kernel_rfl
theorem qaZ (x0:List UInt8) (x1:List UInt8) (x2:Int):zT [.s x0,.s x1,.i x2]=(.br (ine x2 0) (.leaf (0,[(.s [48]),(.i x2)])) (.br (okR (kr [(.s x0),(.s x1)])) (.br (ine (gI (kr [(.s x0),(.s x1)]) 1) 0) (.leaf (0,[(.s [48]),(.i (gI (kr [(.s x0),(.s x1)]) 1))])) (.leaf (0,[(.s (gS (kr [(.s x0),(.s x1)]) 0)),(.i (gI (kr [(.s x0),(.s x1)]) 1))]))) .fail)):=by kernel_rfl
theorem q9m (y0:List UInt8) (y1:R) (y2:Int) (y3:Int) (y4:Int):vR [.s y0,.r y1,.i y2,.i y3,.i y4]=(.br (ilt y3 y2) (.br (inb y3 (qH y1)) (.br (okR (zT [(.s y0),(.s (cS y1 y3 0)),(.i y4)])) (.leaf (0,[(.s (gS (zT [(.s y0),(.s (cS y1 y3 0)),(.i y4)]) 0)),(.r y1),(.i y2),(.i (qw .i64 y3 1)),(.i (gI (zT [(.s y0),(.s (cS y1 y3 0)),(.i y4)]) 1))])) .fail) .fail) (.leaf (1,[(.s y0),(.i y4)]))):=by kernel_rfl
theorem qlL (x0:R) (x1:Int):qe [.r x0,.i x1]=(.br (okR (qg vR [(.s [49]),(.r x0),(.i (qH x0)),(.i 0),(.i x1)])) (.leaf (0,[(.s (gS (qg vR [(.s [49]),(.r x0),(.i (qH x0)),(.i 0),(.i x1)]) 0)),(.i (gI (qg vR [(.s [49]),(.r x0),(.i (qH x0)),(.i 0),(.i x1)]) 1))])) .fail):=by kernel_rfl
theorem qrn (x0:List UInt8) (x1:List UInt8) (x2:List UInt8) (x3:List UInt8) (x4:Int):zX [.s x0,.s x1,.s x2,.s x3,.i x4]=(.br (okR (qe [(.r [[(.s x0)],[(.s x3)]]),(.i x4)])) (.br (okR (qe [(.r [[(.s x2)],[(.s x1)]]),(.i (gI (qe [(.r [[(.s x0)],[(.s x3)]]),(.i x4)]) 1))])) (.br (okR (zE [(.s (gS (qe [(.r [[(.s x0)],[(.s x3)]]),(.i x4)]) 0)),(.s (gS (qe [(.r [[(.s x2)],[(.s x1)]]),(.i (gI (qe [(.r [[(.s x0)],[(.s x3)]]),(.i x4)]) 1))]) 0)),(.i (gI (qe [(.r [[(.s x2)],[(.s x1)]]),(.i (gI (qe [(.r [[(.s x0)],[(.s x3)]]),(.i x4)]) 1))]) 1))])) (.br (okR (qe [(.r [[(.s x1)],[(.s x3)]]),(.i (gI (zE [(.s (gS (qe [(.r [[(.s x0)],[(.s x3)]]),(.i x4)]) 0)),(.s (gS (qe [(.r [[(.s x2)],[(.s x1)]]),(.i (gI (qe [(.r [[(.s x0)],[(.s x3)]]),(.i x4)]) 1))]) 0)),(.i (gI (qe [(.r [[(.s x2)],[(.s x1)]]),(.i (gI (qe [(.r [[(.s x0)],[(.s x3)]]),(.i x4)]) 1))]) 1))]) 1))])) (.leaf (0,[(.s (gS (zE [(.s (gS (qe [(.r [[(.s x0)],[(.s x3)]]),(.i x4)]) 0)),(.s (gS (qe [(.r [[(.s x2)],[(.s x1)]]),(.i (gI (qe [(.r [[(.s x0)],[(.s x3)]]),(.i x4)]) 1))]) 0)),(.i (gI (qe [(.r [[(.s x2)],[(.s x1)]]),(.i (gI (qe [(.r [[(.s x0)],[(.s x3)]]),(.i x4)]) 1))]) 1))]) 0)),(.s (gS (qe [(.r [[(.s x1)],[(.s x3)]]),(.i (gI (zE [(.s (gS (qe [(.r [[(.s x0)],[(.s x3)]]),(.i x4)]) 0)),(.s (gS (qe [(.r [[(.s x2)],[(.s x1)]]),(.i (gI (qe [(.r [[(.s x0)],[(.s x3)]]),(.i x4)]) 1))]) 0)),(.i (gI (qe [(.r [[(.s x2)],[(.s x1)]]),(.i (gI (qe [(.r [[(.s x0)],[(.s x3)]]),(.i x4)]) 1))]) 1))]) 1))]) 0)),(.i (gI (qe [(.r [[(.s x1)],[(.s x3)]]),(.i (gI (zE [(.s (gS (qe [(.r [[(.s x0)],[(.s x3)]]),(.i x4)]) 0)),(.s (gS (qe [(.r [[(.s x2)],[(.s x1)]]),(.i (gI (qe [(.r [[(.s x0)],[(.s x3)]]),(.i x4)]) 1))]) 0)),(.i (gI (qe [(.r [[(.s x2)],[(.s x1)]]),(.i (gI (qe [(.r [[(.s x0)],[(.s x3)]]),(.i x4)]) 1))]) 1))]) 1))]) 1))])) .fail) .fail) .fail) .fail):=by kernel_rfl
theorem qcA (y0:R) (y1:Int) (y2:Int):ue [.r y0,.i y1,.i y2]=(.br (ilt y2 y1) (.br (inb y2 (qH y0)) (.br (okR (zt [(.s (cS y0 y2 0))])) (.br (ine (gI (zt [(.s (cS y0 y2 0))]) 0) 0) (.leaf (2,[(.i (gI (zt [(.s (cS y0 y2 0))]) 0))])) (.leaf (0,[(.r y0),(.i y1),(.i (qw .i64 y2 1))]))) .fail) .fail) (.leaf (1,[]))):=by kernel_rfl
theorem qoV (x0:R):za [.r x0]=(.br (okR (qg ue [(.r x0),(.i (qH x0)),(.i 0)])) (.br (jIs (qg ue [(.r x0),(.i (qH x0)),(.i 0)]) 0) (.leaf (0,[(.i 0)])) (.leaf (0,[(.i (gI (qg ue [(.r x0),(.i (qH x0)),(.i 0)]) 0))]))) .fail):=by kernel_rfl
theorem qgW (x0:List UInt8) (x1:List UInt8):kj [.s x0,.s x1]=(.br (okR (zd [(.s x0),(.s x1)])) (.leaf (0,[(.b (gB (zd [(.s x0),(.s x1)]) 0))])) .fail):=by kernel_rfl
theorem qr0 (x0:List UInt8) (x1:List UInt8):q29 [.s x0,.s x1]=(.br (seq x1 [49]) (.leaf (0,[(.s x0)])) (.br (ile ((qF x0)+(qF [47])) 140737488355328) (.br (ile ((qF (q7O x0 [47]))+(qF x1)) 140737488355328) (.leaf (0,[(.s (q7O (q7O x0 [47]) x1))])) .fail) .fail)):=by kernel_rfl
theorem qoM (x0:List UInt8) (x1:List UInt8):j7 [.s x0,.s x1]=(let r0:TR:=(zG [(.r [[(.s x0)],[(.s x1)]])])
 .br (okR r0) (.br (ine (gI r0 0) 0) (.leaf (0,[(.s []),(.s []),(.i (gI r0 0))])) (.br (seq x1 [48]) (.leaf (0,[(.s []),(.s []),(.i 10)])) (let r1:TR:=(wK [(.s x0),(.s x1)])
 .br (okR r1) (.br (gB r1 2) (.br (ine (gI r1 1) 0) (.br (ine (gI r1 1) 0) (.br (ine (q69 (gI r1 0) (gI r1 1)) 0) (.br (not (beq (ilt (q69 (gI r1 0) (gI r1 1)) 0) (ilt (gI r1 1) 0))) (let r2:TR:=(vV [(.i (zi .i64 (uA .i64 (gI r1 0) (gI r1 1)) 1))])
 .br (okR r2) (let r3:TR:=(vV [(.i (qw .i64 (q69 (gI r1 0) (gI r1 1)) (gI r1 1)))])
 .br (okR r3) (.leaf (0,[(.s (gS r2 0)),(.s (gS r3 0)),(.i 0)])) .fail) .fail) (let r2:TR:=(vV [(.i (uA .i64 (gI r1 0) (gI r1 1)))])
 .br (okR r2) (let r3:TR:=(vV [(.i (q69 (gI r1 0) (gI r1 1)))])
 .br (okR r3) (.leaf (0,[(.s (gS r2 0)),(.s (gS r3 0)),(.i 0)])) .fail) .fail)) (let r2:TR:=(vV [(.i (uA .i64 (gI r1 0) (gI r1 1)))])
 .br (okR r2) (let r3:TR:=(vV [(.i (q69 (gI r1 0) (gI r1 1)))])
 .br (okR r3) (.leaf (0,[(.s (gS r2 0)),(.s (gS r3 0)),(.i 0)])) .fail) .fail)) .fail) .fail) (let r2:TR:=(qo [(.s x0)])
 .br (okR r2) (let r3:TR:=(qo [(.s x1)])
 .br (okR r3) (let r4:TR:=(zf [(.b (gB r2 0)),(.i (gI r2 1)),(.r (gR r2 2)),(.b (gB r3 0)),(.i (gI r3 1)),(.r (gR r3 2))])
 .br (okR r4) (.br (ilt 0 (gI r4 10)) (.br (not (beq (gB r4 0) (gB r4 3))) (let r5:TR:=(wl [(.b true),(.i (gI r4 7)),(.r (gR r4 8)),(.b true),(.i 1),(.r (qdh (wh 232 [(.i 0)]) 0 0 [(.i 1)]))])
 .br (okR r5) (let r6:TR:=(wl [(.b (gB r4 0)),(.i (gI r4 10)),(.r (gR r4 11)),(.b (gB r4 3)),(.i (gI r4 4)),(.r (gR r4 5))])
 .br (okR r6) (let r7:TR:=(qJ [(.b (gB r5 0)),(.i (gI r5 1)),(.r (gR r5 2))])
 .br (okR r7) (let r8:TR:=(qJ [(.b (gB r6 0)),(.i (gI r6 1)),(.r (gR r6 2))])
 .br (okR r8) (.leaf (0,[(.s (gS r7 0)),(.s (gS r8 0)),(.i 0)])) .fail) .fail) .fail) .fail) (let r5:TR:=(qJ [(.b (not (beq (gB r4 0) (gB r4 3)))),(.i (gI r4 7)),(.r (gR r4 8))])
 .br (okR r5) (let r6:TR:=(qJ [(.b (gB r4 0)),(.i (gI r4 10)),(.r (gR r4 11))])
 .br (okR r6) (.leaf (0,[(.s (gS r5 0)),(.s (gS r6 0)),(.i 0)])) .fail) .fail)) (let r5:TR:=(qJ [(.b (not (beq (gB r4 0) (gB r4 3)))),(.i (gI r4 7)),(.r (gR r4 8))])
 .br (okR r5) (let r6:TR:=(qJ [(.b (gB r4 0)),(.i (gI r4 10)),(.r (gR r4 11))])
 .br (okR r6) (.leaf (0,[(.s (gS r5 0)),(.s (gS r6 0)),(.i 0)])) .fail) .fail)) .fail) .fail) .fail)) .fail))) .fail):=by kernel_rfl
theorem qvi (x0:List UInt8) (x1:List UInt8):q0y [.s x0,.s x1]=(.br (okR (j7 [(.s x0),(.s x1)])) (.br (ine (gI (j7 [(.s x0),(.s x1)]) 2) 0) (.leaf (0,[(.s []),(.i (gI (j7 [(.s x0),(.s x1)]) 2))])) (.br (okR (qT [(.s (gS (j7 [(.s x0),(.s x1)]) 0))])) (.br (ine (gI (qT [(.s (gS (j7 [(.s x0),(.s x1)]) 0))]) 0) 0) (.leaf (0,[(.s []),(.i (gI (qT [(.s (gS (j7 [(.s x0),(.s x1)]) 0))]) 0))])) (.leaf (0,[(.s (gS (j7 [(.s x0),(.s x1)]) 0)),(.i 0)]))) .fail)) .fail):=by kernel_rfl
theorem qaV (x0:List UInt8) (x1:List UInt8) (x2:Int):j0 [.s x0,.s x1,.i x2]=(.br (ine x2 0) (.leaf (0,[(.s [48]),(.i x2)])) (.br (okR (jQ [(.s x0),(.s x1)])) (.br (ine (gI (jQ [(.s x0),(.s x1)]) 1) 0) (.leaf (0,[(.s [48]),(.i (gI (jQ [(.s x0),(.s x1)]) 1))])) (.leaf (0,[(.s (gS (jQ [(.s x0),(.s x1)]) 0)),(.i (gI (jQ [(.s x0),(.s x1)]) 1))]))) .fail)):=by kernel_rfl
theorem qaW (x0:List UInt8) (x1:List UInt8) (x2:Int):zR [.s x0,.s x1,.i x2]=(.br (ine x2 0) (.leaf (0,[(.s [48]),(.i x2)])) (.br (okR (q0y [(.s x0),(.s x1)])) (.br (ine (gI (q0y [(.s x0),(.s x1)]) 1) 0) (.leaf (0,[(.s [48]),(.i (gI (q0y [(.s x0),(.s x1)]) 1))])) (.leaf (0,[(.s (gS (q0y [(.s x0),(.s x1)]) 0)),(.i (gI (q0y [(.s x0),(.s x1)]) 1))]))) .fail)):=by kernel_rfl
theorem qh9 (x0:List UInt8) (x1:List UInt8) (x2:Int):qX [.s x0,.s x1,.i x2]=(let r0:TR:=(j0 [(.s x0),(.s x1),(.i x2)])
 .br (okR r0) (let r1:TR:=(kj [(.s x1),(.s [45])])
 .br (okR r1) (.br (gB r1 0) (let r2:TR:=(zE [(.s [48]),(.s (gS r0 0)),(.i (gI r0 1))])
 .br (okR r2) (.br (ine (gI r2 1) 0) (.leaf (0,[(.s []),(.i (gI r2 1))])) (let r3:TR:=(zR [(.s x0),(.s (gS r2 0)),(.i (gI r2 1))])
 .br (okR r3) (let r4:TR:=(zR [(.s x1),(.s (gS r2 0)),(.i (gI r3 1))])
 .br (okR r4) (let r5:TR:=(q29 [(.s (gS r3 0)),(.s (gS r4 0))])
 .br (okR r5) (.leaf (0,[(.s (gS r5 0)),(.i (gI r4 1))])) .fail) .fail) .fail)) .fail) (.br (ine (gI r0 1) 0) (.leaf (0,[(.s []),(.i (gI r0 1))])) (let r2:TR:=(zR [(.s x0),(.s (gS r0 0)),(.i (gI r0 1))])
 .br (okR r2) (let r3:TR:=(zR [(.s x1),(.s (gS r0 0)),(.i (gI r2 1))])
 .br (okR r3) (let r4:TR:=(q29 [(.s (gS r2 0)),(.s (gS r3 0))])
 .br (okR r4) (.leaf (0,[(.s (gS r4 0)),(.i (gI r3 1))])) .fail) .fail) .fail))) .fail) .fail):=by kernel_rfl
theorem qbG (x0:List UInt8) (x1:List UInt8):wO [.s x0,.s x1]=(.br (okR (za [(.r [[(.s x0)],[(.s x1)]])])) (.br (ine (gI (za [(.r [[(.s x0)],[(.s x1)]])]) 0) 0) (.leaf (0,[(.s []),(.i (gI (za [(.r [[(.s x0)],[(.s x1)]])]) 0))])) (.br (okR (q9 [(.s x0)])) (.br (okR (q9 [(.s x1)])) (.br (okR (zX [(.s (gS (q9 [(.s x0)]) 0)),(.s (gS (q9 [(.s x0)]) 1)),(.s (gS (q9 [(.s x1)]) 0)),(.s (gS (q9 [(.s x1)]) 1)),(.i 0)])) (.br (ine (gI (zX [(.s (gS (q9 [(.s x0)]) 0)),(.s (gS (q9 [(.s x0)]) 1)),(.s (gS (q9 [(.s x1)]) 0)),(.s (gS (q9 [(.s x1)]) 1)),(.i 0)]) 2) 0) (.leaf (0,[(.s []),(.i (gI (zX [(.s (gS (q9 [(.s x0)]) 0)),(.s (gS (q9 [(.s x0)]) 1)),(.s (gS (q9 [(.s x1)]) 0)),(.s (gS (q9 [(.s x1)]) 1)),(.i 0)]) 2))])) (.br (seq (gS (zX [(.s (gS (q9 [(.s x0)]) 0)),(.s (gS (q9 [(.s x0)]) 1)),(.s (gS (q9 [(.s x1)]) 0)),(.s (gS (q9 [(.s x1)]) 1)),(.i 0)]) 1) [48]) (.leaf (0,[(.s []),(.i 10)])) (.br (okR (qX [(.s (gS (zX [(.s (gS (q9 [(.s x0)]) 0)),(.s (gS (q9 [(.s x0)]) 1)),(.s (gS (q9 [(.s x1)]) 0)),(.s (gS (q9 [(.s x1)]) 1)),(.i 0)]) 0)),(.s (gS (zX [(.s (gS (q9 [(.s x0)]) 0)),(.s (gS (q9 [(.s x0)]) 1)),(.s (gS (q9 [(.s x1)]) 0)),(.s (gS (q9 [(.s x1)]) 1)),(.i 0)]) 1)),(.i (gI (zX [(.s (gS (q9 [(.s x0)]) 0)),(.s (gS (q9 [(.s x0)]) 1)),(.s (gS (q9 [(.s x1)]) 0)),(.s (gS (q9 [(.s x1)]) 1)),(.i 0)]) 2))])) (.leaf (0,[(.s (gS (qX [(.s (gS (zX [(.s (gS (q9 [(.s x0)]) 0)),(.s (gS (q9 [(.s x0)]) 1)),(.s (gS (q9 [(.s x1)]) 0)),(.s (gS (q9 [(.s x1)]) 1)),(.i 0)]) 0)),(.s (gS (zX [(.s (gS (q9 [(.s x0)]) 0)),(.s (gS (q9 [(.s x0)]) 1)),(.s (gS (q9 [(.s x1)]) 0)),(.s (gS (q9 [(.s x1)]) 1)),(.i 0)]) 1)),(.i (gI (zX [(.s (gS (q9 [(.s x0)]) 0)),(.s (gS (q9 [(.s x0)]) 1)),(.s (gS (q9 [(.s x1)]) 0)),(.s (gS (q9 [(.s x1)]) 1)),(.i 0)]) 2))]) 0)),(.i (gI (qX [(.s (gS (zX [(.s (gS (q9 [(.s x0)]) 0)),(.s (gS (q9 [(.s x0)]) 1)),(.s (gS (q9 [(.s x1)]) 0)),(.s (gS (q9 [(.s x1)]) 1)),(.i 0)]) 0)),(.s (gS (zX [(.s (gS (q9 [(.s x0)]) 0)),(.s (gS (q9 [(.s x0)]) 1)),(.s (gS (q9 [(.s x1)]) 0)),(.s (gS (q9 [(.s x1)]) 1)),(.i 0)]) 1)),(.i (gI (zX [(.s (gS (q9 [(.s x0)]) 0)),(.s (gS (q9 [(.s x0)]) 1)),(.s (gS (q9 [(.s x1)]) 0)),(.s (gS (q9 [(.s x1)]) 1)),(.i 0)]) 2))]) 1))])) .fail))) .fail) .fail) .fail)) .fail):=by kernel_rfl
theorem qva (x0:List UInt8) (x1:List UInt8):q0i [.s x0,.s x1]=(.br (okR (wO [(.s x0),(.s x1)])) (.leaf (0,[(.s (gS (wO [(.s x0),(.s x1)]) 0)),(.i (gI (wO [(.s x0),(.s x1)]) 1))])) .fail):=by kernel_rfl
theorem qaS (x0:List UInt8) (x1:List UInt8) (x2:Int):wE [.s x0,.s x1,.i x2]=(.br (ine x2 0) (.leaf (0,[(.s [48]),(.i x2)])) (.br (okR (q0i [(.s x0),(.s x1)])) (.br (ine (gI (q0i [(.s x0),(.s x1)]) 1) 0) (.leaf (0,[(.s [48]),(.i (gI (q0i [(.s x0),(.s x1)]) 1))])) (.leaf (0,[(.s (gS (q0i [(.s x0),(.s x1)]) 0)),(.i (gI (q0i [(.s x0),(.s x1)]) 1))]))) .fail)):=by kernel_rfl
theorem qmF (x0:List UInt8) (x1:List UInt8) (x2:Int):qG [.s x0,.s x1,.i x2]=(.br (okR (wE [(.s x0),(.s x1),(.i x2)])) (.leaf (0,[(.s (gS (wE [(.s x0),(.s x1),(.i x2)]) 0)),(.i (gI (wE [(.s x0),(.s x1),(.i x2)]) 1))])) .fail):=by kernel_rfl
theorem qk0 (x0:List UInt8) (x1:List UInt8) (x2:List UInt8) (x3:List UInt8) (x4:Int):qR [.s x0,.s x1,.s x2,.s x3,.i x4]=(.br (okR (qG [(.s x0),(.s x2),(.i x4)])) (.br (okR (qG [(.s x1),(.s x3),(.i (gI (qG [(.s x0),(.s x2),(.i x4)]) 1))])) (.leaf (0,[(.s (gS (qG [(.s x0),(.s x2),(.i x4)]) 0)),(.s (gS (qG [(.s x1),(.s x3),(.i (gI (qG [(.s x0),(.s x2),(.i x4)]) 1))]) 0)),(.i (gI (qG [(.s x1),(.s x3),(.i (gI (qG [(.s x0),(.s x2),(.i x4)]) 1))]) 1))])) .fail) .fail):=by kernel_rfl
theorem qaU (x0:List UInt8) (x1:List UInt8) (x2:Int):wB [.s x0,.s x1,.i x2]=(.br (ine x2 0) (.leaf (0,[(.s [48]),(.i x2)])) (.br (okR (jO [(.s x0),(.s x1)])) (.br (ine (gI (jO [(.s x0),(.s x1)]) 1) 0) (.leaf (0,[(.s [48]),(.i (gI (jO [(.s x0),(.s x1)]) 1))])) (.leaf (0,[(.s (gS (jO [(.s x0),(.s x1)]) 0)),(.i (gI (jO [(.s x0),(.s x1)]) 1))]))) .fail)):=by kernel_rfl
theorem qmU (x0:List UInt8) (x1:List UInt8) (x2:Int):vd [.s x0,.s x1,.i x2]=(.br (okR (wB [(.s x0),(.s x1),(.i x2)])) (.leaf (0,[(.s (gS (wB [(.s x0),(.s x1),(.i x2)]) 0)),(.i (gI (wB [(.s x0),(.s x1),(.i x2)]) 1))])) .fail):=by kernel_rfl
theorem qrr (x0:List UInt8) (x1:List UInt8) (x2:List UInt8) (x3:List UInt8) (x4:Int):zW [.s x0,.s x1,.s x2,.s x3,.i x4]=(.br (okR (qe [(.r [[(.s x0)],[(.s x3)]]),(.i x4)])) (.br (okR (qe [(.r [[(.s x2)],[(.s x1)]]),(.i (gI (qe [(.r [[(.s x0)],[(.s x3)]]),(.i x4)]) 1))])) (.br (okR (vd [(.s (gS (qe [(.r [[(.s x0)],[(.s x3)]]),(.i x4)]) 0)),(.s (gS (qe [(.r [[(.s x2)],[(.s x1)]]),(.i (gI (qe [(.r [[(.s x0)],[(.s x3)]]),(.i x4)]) 1))]) 0)),(.i (gI (qe [(.r [[(.s x2)],[(.s x1)]]),(.i (gI (qe [(.r [[(.s x0)],[(.s x3)]]),(.i x4)]) 1))]) 1))])) (.br (okR (qe [(.r [[(.s x1)],[(.s x3)]]),(.i (gI (vd [(.s (gS (qe [(.r [[(.s x0)],[(.s x3)]]),(.i x4)]) 0)),(.s (gS (qe [(.r [[(.s x2)],[(.s x1)]]),(.i (gI (qe [(.r [[(.s x0)],[(.s x3)]]),(.i x4)]) 1))]) 0)),(.i (gI (qe [(.r [[(.s x2)],[(.s x1)]]),(.i (gI (qe [(.r [[(.s x0)],[(.s x3)]]),(.i x4)]) 1))]) 1))]) 1))])) (.leaf (0,[(.s (gS (vd [(.s (gS (qe [(.r [[(.s x0)],[(.s x3)]]),(.i x4)]) 0)),(.s (gS (qe [(.r [[(.s x2)],[(.s x1)]]),(.i (gI (qe [(.r [[(.s x0)],[(.s x3)]]),(.i x4)]) 1))]) 0)),(.i (gI (qe [(.r [[(.s x2)],[(.s x1)]]),(.i (gI (qe [(.r [[(.s x0)],[(.s x3)]]),(.i x4)]) 1))]) 1))]) 0)),(.s (gS (qe [(.r [[(.s x1)],[(.s x3)]]),(.i (gI (vd [(.s (gS (qe [(.r [[(.s x0)],[(.s x3)]]),(.i x4)]) 0)),(.s (gS (qe [(.r [[(.s x2)],[(.s x1)]]),(.i (gI (qe [(.r [[(.s x0)],[(.s x3)]]),(.i x4)]) 1))]) 0)),(.i (gI (qe [(.r [[(.s x2)],[(.s x1)]]),(.i (gI (qe [(.r [[(.s x0)],[(.s x3)]]),(.i x4)]) 1))]) 1))]) 1))]) 0)),(.i (gI (qe [(.r [[(.s x1)],[(.s x3)]]),(.i (gI (vd [(.s (gS (qe [(.r [[(.s x0)],[(.s x3)]]),(.i x4)]) 0)),(.s (gS (qe [(.r [[(.s x2)],[(.s x1)]]),(.i (gI (qe [(.r [[(.s x0)],[(.s x3)]]),(.i x4)]) 1))]) 0)),(.i (gI (qe [(.r [[(.s x2)],[(.s x1)]]),(.i (gI (qe [(.r [[(.s x0)],[(.s x3)]]),(.i x4)]) 1))]) 1))]) 1))]) 1))])) .fail) .fail) .fail) .fail):=by kernel_rfl
theorem qbZ (x0:List UInt8) (x1:List UInt8):wW [.s x0,.s x1]=(.br (okR (za [(.r [[(.s x0)],[(.s x1)]])])) (.br (ine (gI (za [(.r [[(.s x0)],[(.s x1)]])]) 0) 0) (.leaf (0,[(.s []),(.i (gI (za [(.r [[(.s x0)],[(.s x1)]])]) 0))])) (.br (okR (q9 [(.s x0)])) (.br (okR (q9 [(.s x1)])) (.br (okR (zW [(.s (gS (q9 [(.s x0)]) 0)),(.s (gS (q9 [(.s x0)]) 1)),(.s (gS (q9 [(.s x1)]) 0)),(.s (gS (q9 [(.s x1)]) 1)),(.i 0)])) (.br (ine (gI (zW [(.s (gS (q9 [(.s x0)]) 0)),(.s (gS (q9 [(.s x0)]) 1)),(.s (gS (q9 [(.s x1)]) 0)),(.s (gS (q9 [(.s x1)]) 1)),(.i 0)]) 2) 0) (.leaf (0,[(.s []),(.i (gI (zW [(.s (gS (q9 [(.s x0)]) 0)),(.s (gS (q9 [(.s x0)]) 1)),(.s (gS (q9 [(.s x1)]) 0)),(.s (gS (q9 [(.s x1)]) 1)),(.i 0)]) 2))])) (.br (seq (gS (zW [(.s (gS (q9 [(.s x0)]) 0)),(.s (gS (q9 [(.s x0)]) 1)),(.s (gS (q9 [(.s x1)]) 0)),(.s (gS (q9 [(.s x1)]) 1)),(.i 0)]) 1) [48]) (.leaf (0,[(.s []),(.i 10)])) (.br (okR (qX [(.s (gS (zW [(.s (gS (q9 [(.s x0)]) 0)),(.s (gS (q9 [(.s x0)]) 1)),(.s (gS (q9 [(.s x1)]) 0)),(.s (gS (q9 [(.s x1)]) 1)),(.i 0)]) 0)),(.s (gS (zW [(.s (gS (q9 [(.s x0)]) 0)),(.s (gS (q9 [(.s x0)]) 1)),(.s (gS (q9 [(.s x1)]) 0)),(.s (gS (q9 [(.s x1)]) 1)),(.i 0)]) 1)),(.i (gI (zW [(.s (gS (q9 [(.s x0)]) 0)),(.s (gS (q9 [(.s x0)]) 1)),(.s (gS (q9 [(.s x1)]) 0)),(.s (gS (q9 [(.s x1)]) 1)),(.i 0)]) 2))])) (.leaf (0,[(.s (gS (qX [(.s (gS (zW [(.s (gS (q9 [(.s x0)]) 0)),(.s (gS (q9 [(.s x0)]) 1)),(.s (gS (q9 [(.s x1)]) 0)),(.s (gS (q9 [(.s x1)]) 1)),(.i 0)]) 0)),(.s (gS (zW [(.s (gS (q9 [(.s x0)]) 0)),(.s (gS (q9 [(.s x0)]) 1)),(.s (gS (q9 [(.s x1)]) 0)),(.s (gS (q9 [(.s x1)]) 1)),(.i 0)]) 1)),(.i (gI (zW [(.s (gS (q9 [(.s x0)]) 0)),(.s (gS (q9 [(.s x0)]) 1)),(.s (gS (q9 [(.s x1)]) 0)),(.s (gS (q9 [(.s x1)]) 1)),(.i 0)]) 2))]) 0)),(.i (gI (qX [(.s (gS (zW [(.s (gS (q9 [(.s x0)]) 0)),(.s (gS (q9 [(.s x0)]) 1)),(.s (gS (q9 [(.s x1)]) 0)),(.s (gS (q9 [(.s x1)]) 1)),(.i 0)]) 0)),(.s (gS (zW [(.s (gS (q9 [(.s x0)]) 0)),(.s (gS (q9 [(.s x0)]) 1)),(.s (gS (q9 [(.s x1)]) 0)),(.s (gS (q9 [(.s x1)]) 1)),(.i 0)]) 1)),(.i (gI (zW [(.s (gS (q9 [(.s x0)]) 0)),(.s (gS (q9 [(.s x0)]) 1)),(.s (gS (q9 [(.s x1)]) 0)),(.s (gS (q9 [(.s x1)]) 1)),(.i 0)]) 2))]) 1))])) .fail))) .fail) .fail) .fail)) .fail):=by kernel_rfl
theorem qw2 (x0:List UInt8) (x1:List UInt8):q0u [.s x0,.s x1]=(.br (okR (wW [(.s x0),(.s x1)])) (.leaf (0,[(.s (gS (wW [(.s x0),(.s x1)]) 0)),(.i (gI (wW [(.s x0),(.s x1)]) 1))])) .fail):=by kernel_rfl
theorem qaI (x0:List UInt8) (x1:List UInt8) (x2:Int):wD [.s x0,.s x1,.i x2]=(.br (ine x2 0) (.leaf (0,[(.s [48]),(.i x2)])) (.br (okR (q0u [(.s x0),(.s x1)])) (.br (ine (gI (q0u [(.s x0),(.s x1)]) 1) 0) (.leaf (0,[(.s [48]),(.i (gI (q0u [(.s x0),(.s x1)]) 1))])) (.leaf (0,[(.s (gS (q0u [(.s x0),(.s x1)]) 0)),(.i (gI (q0u [(.s x0),(.s x1)]) 1))]))) .fail)):=by kernel_rfl
theorem qlK (x0:List UInt8) (x1:List UInt8) (x2:Int):zM [.s x0,.s x1,.i x2]=(.br (okR (wD [(.s x0),(.s x1),(.i x2)])) (.leaf (0,[(.s (gS (wD [(.s x0),(.s x1),(.i x2)]) 0)),(.i (gI (wD [(.s x0),(.s x1),(.i x2)]) 1))])) .fail):=by kernel_rfl
theorem qrT (x0:List UInt8) (x1:List UInt8) (x2:List UInt8) (x3:List UInt8) (x4:Int):w9 [.s x0,.s x1,.s x2,.s x3,.i x4]=(.br (okR (qe [(.r [[(.s x0)],[(.s x2)]]),(.i x4)])) (.br (okR (qe [(.r [[(.s x1)],[(.s x3)]]),(.i (gI (qe [(.r [[(.s x0)],[(.s x2)]]),(.i x4)]) 1))])) (.leaf (0,[(.s (gS (qe [(.r [[(.s x0)],[(.s x2)]]),(.i x4)]) 0)),(.s (gS (qe [(.r [[(.s x1)],[(.s x3)]]),(.i (gI (qe [(.r [[(.s x0)],[(.s x2)]]),(.i x4)]) 1))]) 0)),(.i (gI (qe [(.r [[(.s x1)],[(.s x3)]]),(.i (gI (qe [(.r [[(.s x0)],[(.s x2)]]),(.i x4)]) 1))]) 1))])) .fail) .fail):=by kernel_rfl
theorem qck (x0:List UInt8) (x1:List UInt8):wU [.s x0,.s x1]=(.br (okR (za [(.r [[(.s x0)],[(.s x1)]])])) (.br (ine (gI (za [(.r [[(.s x0)],[(.s x1)]])]) 0) 0) (.leaf (0,[(.s []),(.i (gI (za [(.r [[(.s x0)],[(.s x1)]])]) 0))])) (.br (okR (q9 [(.s x0)])) (.br (okR (q9 [(.s x1)])) (.br (okR (w9 [(.s (gS (q9 [(.s x0)]) 0)),(.s (gS (q9 [(.s x0)]) 1)),(.s (gS (q9 [(.s x1)]) 0)),(.s (gS (q9 [(.s x1)]) 1)),(.i 0)])) (.br (ine (gI (w9 [(.s (gS (q9 [(.s x0)]) 0)),(.s (gS (q9 [(.s x0)]) 1)),(.s (gS (q9 [(.s x1)]) 0)),(.s (gS (q9 [(.s x1)]) 1)),(.i 0)]) 2) 0) (.leaf (0,[(.s []),(.i (gI (w9 [(.s (gS (q9 [(.s x0)]) 0)),(.s (gS (q9 [(.s x0)]) 1)),(.s (gS (q9 [(.s x1)]) 0)),(.s (gS (q9 [(.s x1)]) 1)),(.i 0)]) 2))])) (.br (seq (gS (w9 [(.s (gS (q9 [(.s x0)]) 0)),(.s (gS (q9 [(.s x0)]) 1)),(.s (gS (q9 [(.s x1)]) 0)),(.s (gS (q9 [(.s x1)]) 1)),(.i 0)]) 1) [48]) (.leaf (0,[(.s []),(.i 10)])) (.br (okR (qX [(.s (gS (w9 [(.s (gS (q9 [(.s x0)]) 0)),(.s (gS (q9 [(.s x0)]) 1)),(.s (gS (q9 [(.s x1)]) 0)),(.s (gS (q9 [(.s x1)]) 1)),(.i 0)]) 0)),(.s (gS (w9 [(.s (gS (q9 [(.s x0)]) 0)),(.s (gS (q9 [(.s x0)]) 1)),(.s (gS (q9 [(.s x1)]) 0)),(.s (gS (q9 [(.s x1)]) 1)),(.i 0)]) 1)),(.i (gI (w9 [(.s (gS (q9 [(.s x0)]) 0)),(.s (gS (q9 [(.s x0)]) 1)),(.s (gS (q9 [(.s x1)]) 0)),(.s (gS (q9 [(.s x1)]) 1)),(.i 0)]) 2))])) (.leaf (0,[(.s (gS (qX [(.s (gS (w9 [(.s (gS (q9 [(.s x0)]) 0)),(.s (gS (q9 [(.s x0)]) 1)),(.s (gS (q9 [(.s x1)]) 0)),(.s (gS (q9 [(.s x1)]) 1)),(.i 0)]) 0)),(.s (gS (w9 [(.s (gS (q9 [(.s x0)]) 0)),(.s (gS (q9 [(.s x0)]) 1)),(.s (gS (q9 [(.s x1)]) 0)),(.s (gS (q9 [(.s x1)]) 1)),(.i 0)]) 1)),(.i (gI (w9 [(.s (gS (q9 [(.s x0)]) 0)),(.s (gS (q9 [(.s x0)]) 1)),(.s (gS (q9 [(.s x1)]) 0)),(.s (gS (q9 [(.s x1)]) 1)),(.i 0)]) 2))]) 0)),(.i (gI (qX [(.s (gS (w9 [(.s (gS (q9 [(.s x0)]) 0)),(.s (gS (q9 [(.s x0)]) 1)),(.s (gS (q9 [(.s x1)]) 0)),(.s (gS (q9 [(.s x1)]) 1)),(.i 0)]) 0)),(.s (gS (w9 [(.s (gS (q9 [(.s x0)]) 0)),(.s (gS (q9 [(.s x0)]) 1)),(.s (gS (q9 [(.s x1)]) 0)),(.s (gS (q9 [(.s x1)]) 1)),(.i 0)]) 1)),(.i (gI (w9 [(.s (gS (q9 [(.s x0)]) 0)),(.s (gS (q9 [(.s x0)]) 1)),(.s (gS (q9 [(.s x1)]) 0)),(.s (gS (q9 [(.s x1)]) 1)),(.i 0)]) 2))]) 1))])) .fail))) .fail) .fail) .fail)) .fail):=by kernel_rfl
theorem quX (x0:List UInt8) (x1:List UInt8):q0F [.s x0,.s x1]=(.br (okR (wU [(.s x0),(.s x1)])) (.leaf (0,[(.s (gS (wU [(.s x0),(.s x1)]) 0)),(.i (gI (wU [(.s x0),(.s x1)]) 1))])) .fail):=by kernel_rfl
theorem qaL (x0:List UInt8) (x1:List UInt8) (x2:Int):wF [.s x0,.s x1,.i x2]=(.br (ine x2 0) (.leaf (0,[(.s [48]),(.i x2)])) (.br (okR (q0F [(.s x0),(.s x1)])) (.br (ine (gI (q0F [(.s x0),(.s x1)]) 1) 0) (.leaf (0,[(.s [48]),(.i (gI (q0F [(.s x0),(.s x1)]) 1))])) (.leaf (0,[(.s (gS (q0F [(.s x0),(.s x1)]) 0)),(.i (gI (q0F [(.s x0),(.s x1)]) 1))]))) .fail)):=by kernel_rfl
theorem qlD (x0:List UInt8) (x1:List UInt8) (x2:Int):qC [.s x0,.s x1,.i x2]=(.br (okR (wF [(.s x0),(.s x1),(.i x2)])) (.leaf (0,[(.s (gS (wF [(.s x0),(.s x1),(.i x2)]) 0)),(.i (gI (wF [(.s x0),(.s x1),(.i x2)]) 1))])) .fail):=by kernel_rfl
theorem qm6 (x0:List UInt8) (x1:List UInt8) (x2:List UInt8) (x3:List UInt8) (x4:Int):wk [.s x0,.s x1,.s x2,.s x3,.i x4]=(.br (okR (qC [(.s x0),(.s x2),(.i x4)])) (.br (okR (qC [(.s x1),(.s x3),(.i (gI (qC [(.s x0),(.s x2),(.i x4)]) 1))])) (.br (okR (zM [(.s (gS (qC [(.s x0),(.s x2),(.i x4)]) 0)),(.s (gS (qC [(.s x1),(.s x3),(.i (gI (qC [(.s x0),(.s x2),(.i x4)]) 1))]) 0)),(.i (gI (qC [(.s x1),(.s x3),(.i (gI (qC [(.s x0),(.s x2),(.i x4)]) 1))]) 1))])) (.leaf (0,[(.s (gS (zM [(.s (gS (qC [(.s x0),(.s x2),(.i x4)]) 0)),(.s (gS (qC [(.s x1),(.s x3),(.i (gI (qC [(.s x0),(.s x2),(.i x4)]) 1))]) 0)),(.i (gI (qC [(.s x1),(.s x3),(.i (gI (qC [(.s x0),(.s x2),(.i x4)]) 1))]) 1))]) 0)),(.i (gI (zM [(.s (gS (qC [(.s x0),(.s x2),(.i x4)]) 0)),(.s (gS (qC [(.s x1),(.s x3),(.i (gI (qC [(.s x0),(.s x2),(.i x4)]) 1))]) 0)),(.i (gI (qC [(.s x1),(.s x3),(.i (gI (qC [(.s x0),(.s x2),(.i x4)]) 1))]) 1))]) 1))])) .fail) .fail) .fail):=by kernel_rfl
theorem qmd (x0:List UInt8) (x1:List UInt8) (x2:List UInt8) (x3:List UInt8) (x4:Int):ye [.s x0,.s x1,.s x2,.s x3,.i x4]=(.br (okR (qR [(.s x0),(.s x1),(.s x2),(.s x3),(.i x4)])) (.br (okR (wk [(.s (gS (qR [(.s x0),(.s x1),(.s x2),(.s x3),(.i x4)]) 0)),(.s (gS (qR [(.s x0),(.s x1),(.s x2),(.s x3),(.i x4)]) 1)),(.s (gS (qR [(.s x0),(.s x1),(.s x2),(.s x3),(.i x4)]) 0)),(.s (gS (qR [(.s x0),(.s x1),(.s x2),(.s x3),(.i x4)]) 1)),(.i (gI (qR [(.s x0),(.s x1),(.s x2),(.s x3),(.i x4)]) 2))])) (.leaf (0,[(.s (gS (wk [(.s (gS (qR [(.s x0),(.s x1),(.s x2),(.s x3),(.i x4)]) 0)),(.s (gS (qR [(.s x0),(.s x1),(.s x2),(.s x3),(.i x4)]) 1)),(.s (gS (qR [(.s x0),(.s x1),(.s x2),(.s x3),(.i x4)]) 0)),(.s (gS (qR [(.s x0),(.s x1),(.s x2),(.s x3),(.i x4)]) 1)),(.i (gI (qR [(.s x0),(.s x1),(.s x2),(.s x3),(.i x4)]) 2))]) 0)),(.i (gI (wk [(.s (gS (qR [(.s x0),(.s x1),(.s x2),(.s x3),(.i x4)]) 0)),(.s (gS (qR [(.s x0),(.s x1),(.s x2),(.s x3),(.i x4)]) 1)),(.s (gS (qR [(.s x0),(.s x1),(.s x2),(.s x3),(.i x4)]) 0)),(.s (gS (qR [(.s x0),(.s x1),(.s x2),(.s x3),(.i x4)]) 1)),(.i (gI (qR [(.s x0),(.s x1),(.s x2),(.s x3),(.i x4)]) 2))]) 1))])) .fail) .fail):=by kernel_rfl
theorem quv (x0:List UInt8):q32 [.s x0]=(.br (okR (qT [(.s x0)])) (.br (ine (gI (qT [(.s x0)]) 0) 0) (.leaf (0,[(.i 0),(.i (gI (qT [(.s x0)]) 0))])) (.br (okR (wu [(.s x0)])) (.leaf (0,[(.i (gI (wu [(.s x0)]) 0)),(.i 0)])) .fail)) .fail):=by kernel_rfl
theorem qla (x0:List UInt8) (x1:Int):wS [.s x0,.i x1]=(.br (ine x1 0) (.leaf (0,[(.i 0),(.i x1)])) (.br (okR (q32 [(.s x0)])) (.leaf (0,[(.i (gI (q32 [(.s x0)]) 0)),(.i (gI (q32 [(.s x0)]) 1))])) .fail)):=by kernel_rfl
theorem qk2 (x0:List UInt8) (x1:List UInt8) (x2:List UInt8) (x3:Int):uS [.s x0,.s x1,.s x2,.i x3]=(let r0:TR:=(wS [(.s x0),(.i x3)])
 .br (okR r0) (let r1:TR:=(wS [(.s x1),(.i (gI r0 1))])
 .br (okR r1) (let r2:TR:=(wS [(.s x2),(.i (gI r1 1))])
 .br (okR r2) (.br (ile 0 (q0K .i64 (gI r0 0) (q0K .i64 (gI r1 0) (gI r2 0)))) (.br (ine (gI r0 0) 0) (.leaf (0,[(.i (gI r0 0)),(.i (gI r2 1))])) (.leaf (0,[(.i (q0K .i64 (gI r1 0) (gI r2 0))),(.i (gI r2 1))]))) (let r3:TR:=(qe [(.r [[(.s x0)],[(.s x0)]]),(.i (gI r2 1))])
 .br (okR r3) (let r4:TR:=(qe [(.r [[(.s x1)],[(.s x1)],[(.s x2)]]),(.i (gI r3 1))])
 .br (okR r4) (let r5:TR:=(zE [(.s (gS r3 0)),(.s (gS r4 0)),(.i (gI r4 1))])
 .br (okR r5) (let r6:TR:=(wS [(.s (gS r5 0)),(.i (gI r5 1))])
 .br (okR r6) (.leaf (0,[(.i (q0K .i64 (gI r0 0) (gI r6 0))),(.i (gI r6 1))])) .fail) .fail) .fail) .fail)) .fail) .fail) .fail):=by kernel_rfl
theorem qk8 (x0:List UInt8) (x1:List UInt8) (x2:List UInt8) (x3:List UInt8) (x4:List UInt8):yn [.s x0,.s x1,.s x2,.s x3,.s x4]=(let r0:TR:=(za [(.r [[(.s x0)],[(.s x1)],[(.s x2)],[(.s x3)],[(.s x4)]])])
 .br (okR r0) (.br (ine (gI r0 0) 0) (.leaf (0,[(.i 0),(.i (gI r0 0))])) (.br (inb 0 (qF x2)) (.br (ieq (sat x2 0) 45) (.leaf (0,[(.i 0),(.i 2)])) (.br (inb 0 (qF x4)) (.br (ieq (sat x4 0) 45) (.leaf (0,[(.i 0),(.i 2)])) (let r1:TR:=(q9 [(.s x0)])
 .br (okR r1) (let r2:TR:=(q9 [(.s x1)])
 .br (okR r2) (let r3:TR:=(q9 [(.s x2)])
 .br (okR r3) (let r4:TR:=(q9 [(.s x3)])
 .br (okR r4) (let r5:TR:=(q9 [(.s x4)])
 .br (okR r5) (let r6:TR:=(qe [(.r [[(.s (gS r1 0))],[(.s (gS r2 1))],[(.s (gS r3 1))],[(.s (gS r4 1))],[(.s (gS r5 1))]]),(.i 0)])
 .br (okR r6) (let r7:TR:=(qe [(.r [[(.s (gS r2 0))],[(.s (gS r1 1))],[(.s (gS r4 1))],[(.s (gS r5 1))]]),(.i (gI r6 1))])
 .br (okR r7) (let r8:TR:=(qe [(.r [[(.s (gS r3 0))],[(.s (gS r3 1))]]),(.i (gI r7 1))])
 .br (okR r8) (let r9:TR:=(qe [(.r [[(.s (gS r4 0))],[(.s (gS r1 1))],[(.s (gS r2 1))],[(.s (gS r3 1))]]),(.i (gI r8 1))])
 .br (okR r9) (let r10:TR:=(qe [(.r [[(.s (gS r5 0))],[(.s (gS r5 1))]]),(.i (gI r9 1))])
 .br (okR r10) (let r11:TR:=(uS [(.s (gS r6 0)),(.s (gS r7 0)),(.s (gS r8 0)),(.i (gI r10 1))])
 .br (okR r11) (let r12:TR:=(wS [(.s (gS r9 0)),(.i (gI r11 1))])
 .br (okR r12) (let r13:TR:=(wS [(.s (gS r10 0)),(.i (gI r12 1))])
 .br (okR r13) (.br (ile 0 (q0K .i64 (gI r11 0) (q0K .i64 (gI r12 0) (gI r13 0)))) (.br (ieq (gI r11 0) 0) (.leaf (0,[(.i (q0K .i64 (gI r12 0) (gI r13 0))),(.i (gI r13 1))])) (.leaf (0,[(.i (gI r11 0)),(.i (gI r13 1))]))) (let r14:TR:=(qe [(.r [[(.s (gS r6 0))],[(.s (gS r6 0))]]),(.i (gI r13 1))])
 .br (okR r14) (let r15:TR:=(qe [(.r [[(.s (gS r7 0))],[(.s (gS r7 0))],[(.s (gS r8 0))]]),(.i (gI r14 1))])
 .br (okR r15) (let r16:TR:=(vd [(.s (gS r14 0)),(.s (gS r15 0)),(.i (gI r15 1))])
 .br (okR r16) (let r17:TR:=(qe [(.r [[(.s (gS r9 0))],[(.s (gS r9 0))],[(.s (gS r10 0))]]),(.i (gI r16 1))])
 .br (okR r17) (let r18:TR:=(zE [(.s (gS r16 0)),(.s (gS r17 0)),(.i (gI r17 1))])
 .br (okR r18) (let r19:TR:=(qe [(.r [[(.s [50])],[(.s (gS r6 0))],[(.s (gS r7 0))]]),(.i (gI r18 1))])
 .br (okR r19) (let r20:TR:=(uS [(.s (gS r18 0)),(.s (gS r19 0)),(.s (gS r8 0)),(.i (gI r19 1))])
 .br (okR r20) (.br (ine (gI r20 1) 0) (.leaf (0,[(.i 0),(.i (gI r20 1))])) (.leaf (0,[(.i (q0K .i64 (gI r11 0) (gI r20 0))),(.i 0)]))) .fail) .fail) .fail) .fail) .fail) .fail) .fail)) .fail) .fail) .fail) .fail) .fail) .fail) .fail) .fail) .fail) .fail) .fail) .fail) .fail)) .fail)) .fail)) .fail):=by kernel_rfl
theorem qml (x0:List UInt8) (x1:List UInt8) (x2:List UInt8):ug [.s x0,.s x1,.s x2]=(.br (okR (yn [(.s x0),(.s x1),(.s x2),(.s [48]),(.s [48])])) (.leaf (0,[(.i (gI (yn [(.s x0),(.s x1),(.s x2),(.s [48]),(.s [48])]) 0)),(.i (gI (yn [(.s x0),(.s x1),(.s x2),(.s [48]),(.s [48])]) 1))])) .fail):=by kernel_rfl
theorem qlh (x0:List UInt8) (x1:List UInt8) (x2:List UInt8) (x3:Int):wP [.s x0,.s x1,.s x2,.i x3]=(.br (ine x3 0) (.leaf (0,[(.i 0),(.i x3)])) (.br (okR (ug [(.s x0),(.s x1),(.s x2)])) (.leaf (0,[(.i (gI (ug [(.s x0),(.s x1),(.s x2)]) 0)),(.i (gI (ug [(.s x0),(.s x1),(.s x2)]) 1))])) .fail)):=by kernel_rfl
theorem qkg (x0:List UInt8) (x1:List UInt8) (x2:List UInt8) (x3:List UInt8) (x4:List UInt8) (x5:List UInt8) (x6:List UInt8) (x7:Int):vj [.s x0,.s x1,.s x2,.s x3,.s x4,.s x5,.s x6,.i x7]=(let r0:TR:=(ye [(.s x0),(.s x1),(.s x3),(.s x4),(.i x7)])
 .br (okR r0) (let r1:TR:=(zM [(.s x2),(.s x5),(.i (gI r0 1))])
 .br (okR r1) (let r2:TR:=(qG [(.s (gS r0 0)),(.s (gS r1 0)),(.i (gI r1 1))])
 .br (okR r2) (let r3:TR:=(qC [(.s x2),(.s x5),(.i (gI r2 1))])
 .br (okR r3) (let r4:TR:=(wP [(.s (gS r2 0)),(.s x6),(.s (gS r3 0)),(.i (gI r3 1))])
 .br (okR r4) (.leaf (0,[(.i (gI r4 0)),(.i (gI r4 1))])) .fail) .fail) .fail) .fail) .fail):=by kernel_rfl
theorem qit (x0:List UInt8) (x1:List UInt8) (x2:Int):zI [.s x0,.s x1,.i x2]=(.br (okR (qG [(.s x0),(.s x1),(.i x2)])) (.br (okR (wP [(.s (gS (qG [(.s x0),(.s x1),(.i x2)]) 0)),(.s [48]),(.s [48]),(.i (gI (qG [(.s x0),(.s x1),(.i x2)]) 1))])) (.leaf (0,[(.i (gI (wP [(.s (gS (qG [(.s x0),(.s x1),(.i x2)]) 0)),(.s [48]),(.s [48]),(.i (gI (qG [(.s x0),(.s x1),(.i x2)]) 1))]) 0)),(.i (gI (wP [(.s (gS (qG [(.s x0),(.s x1),(.i x2)]) 0)),(.s [48]),(.s [48]),(.i (gI (qG [(.s x0),(.s x1),(.i x2)]) 1))]) 1))])) .fail) .fail):=by kernel_rfl
theorem qh8 (x0:List UInt8) (x1:List UInt8) (x2:List UInt8) (x3:List UInt8) (x4:List UInt8) (x5:List UInt8) (x6:Int):qM [.s x0,.s x1,.s x2,.s x3,.s x4,.s x5,.i x6]=(.br (okR (zI [(.s x2),(.s x5),(.i x6)])) (.br (ile (gI (zI [(.s x2),(.s x5),(.i x6)]) 0) 0) (.br (okR (vj [(.s x0),(.s x1),(.s x2),(.s x3),(.s x4),(.s x5),(.s [50]),(.i (gI (zI [(.s x2),(.s x5),(.i x6)]) 1))])) (.leaf (0,[(.b (ile (gI (vj [(.s x0),(.s x1),(.s x2),(.s x3),(.s x4),(.s x5),(.s [50]),(.i (gI (zI [(.s x2),(.s x5),(.i x6)]) 1))]) 0) 0)),(.i (gI (vj [(.s x0),(.s x1),(.s x2),(.s x3),(.s x4),(.s x5),(.s [50]),(.i (gI (zI [(.s x2),(.s x5),(.i x6)]) 1))]) 1))])) .fail) (.leaf (0,[(.b false),(.i (gI (zI [(.s x2),(.s x5),(.i x6)]) 1))]))) .fail):=by kernel_rfl
theorem q14 (y0:Int) (y1:Int) (y2:List UInt8) (y3:List UInt8) (y4:List UInt8) (y5:List UInt8) (y6:List UInt8) (y7:List UInt8) (y8:R):jV [.i y0,.i y1,.s y2,.s y3,.s y4,.s y5,.s y6,.s y7,.r y8]=(.br (ilt y1 y0) (.br (inb y1 (qH y8)) (.br (okR (zA [(.s (cS y8 y1 0)),(.s (cS y8 y1 1)),(.s (cS y8 y1 2))])) (.br (ine (gI (zA [(.s (cS y8 y1 0)),(.s (cS y8 y1 1)),(.s (cS y8 y1 2))]) 0) 0) (.leaf (2,[(.i 0),(.i (gI (zA [(.s (cS y8 y1 0)),(.s (cS y8 y1 1)),(.s (cS y8 y1 2))]) 0))])) (.leaf (0,[(.i y0),(.i (qw .i64 y1 1)),(.s y2),(.s y3),(.s y4),(.s y5),(.s y6),(.s y7),(.r y8)]))) .fail) .fail) (.leaf (1,[(.s y2),(.s y3),(.s y4),(.s y5),(.s y6),(.s y7)]))):=by kernel_rfl
theorem qaf (x0:List UInt8) (x1:List UInt8) (x2:List UInt8) (x3:List UInt8) (x4:List UInt8) (x5:List UInt8):jB [.s x0,.s x1,.s x2,.s x3,.s x4,.s x5]=(let r0:TR:=(qg jV [(.i (qH [[(.s x0),(.s x1),(.s x2)],[(.s x3),(.s x4),(.s x5)]])),(.i 0),(.s x0),(.s x1),(.s x2),(.s x3),(.s x4),(.s x5),(.r [[(.s x0),(.s x1),(.s x2)],[(.s x3),(.s x4),(.s x5)]])])
 .br (okR r0) (.br (jIs r0 0) (let r1:TR:=(qM [(.s (gS r0 0)),(.s (gS r0 1)),(.s (gS r0 2)),(.s (gS r0 3)),(.s (gS r0 4)),(.s (gS r0 5)),(.i 0)])
 .br (okR r1) (.br (gB r1 0) (.br (ine (gI r1 1) 0) (.leaf (0,[(.i 0),(.i (gI r1 1))])) (.leaf (0,[(.i 2),(.i 0)]))) (let r2:TR:=(qM [(.s (gS r0 3)),(.s (gS r0 4)),(.s (gS r0 5)),(.s (gS r0 0)),(.s (gS r0 1)),(.s (gS r0 2)),(.i (gI r1 1))])
 .br (okR r2) (.br (gB r2 0) (.br (ine (gI r2 1) 0) (.leaf (0,[(.i 0),(.i (gI r2 1))])) (.leaf (0,[(.i 3),(.i 0)]))) (let r3:TR:=(vj [(.s (gS r0 0)),(.s (gS r0 1)),(.s (gS r0 2)),(.s (gS r0 3)),(.s (gS r0 4)),(.s (gS r0 5)),(.s [45,50]),(.i (gI r2 1))])
 .br (okR r3) (.br (ine (gI r3 1) 0) (.leaf (0,[(.i 0),(.i (gI r3 1))])) (.leaf (0,[(.i (zi .i64 0 (gI r3 0))),(.i 0)]))) .fail)) .fail)) .fail) (.leaf (0,[(.i (gI r0 0)),(.i (gI r0 1))]))) .fail):=by kernel_rfl
theorem qgo (y0:R) (y1:R) (y2:Int) (y3:Int):uJ [.r y0,.r y1,.i y2,.i y3]=(.br (ilt y3 y2) (.br (inb y3 (qH y1)) (.br (okR (zA [(.s (cS y1 y3 0)),(.s (cS y1 y3 1)),(.s (cS y1 y3 2))])) (.br (ine (gI (zA [(.s (cS y1 y3 0)),(.s (cS y1 y3 1)),(.s (cS y1 y3 2))]) 0) 0) (.leaf (2,[(.i (gI (zA [(.s (cS y1 y3 0)),(.s (cS y1 y3 1)),(.s (cS y1 y3 2))]) 0))])) (.leaf (0,[(.r y0),(.r y1),(.i y2),(.i (qw .i64 y3 1))]))) .fail) .fail) (.leaf (1,[(.r y0)]))):=by kernel_rfl
theorem qug (x0:R):zl [.r x0]=(.br (ilt 64 (qH x0)) (.leaf (0,[(.i 5)])) (.br (okR (qg uJ [(.r x0),(.r x0),(.i (qH x0)),(.i 0)])) (.br (jIs (qg uJ [(.r x0),(.r x0),(.i (qH x0)),(.i 0)]) 0) (.br (ieq (qH (gR (qg uJ [(.r x0),(.r x0),(.i (qH x0)),(.i 0)]) 0)) 0) (.leaf (0,[(.i 13)])) (.leaf (0,[(.i 0)]))) (.leaf (0,[(.i (gI (qg uJ [(.r x0),(.r x0),(.i (qH x0)),(.i 0)]) 0))]))) .fail)):=by kernel_rfl
theorem qrJ (x0:List UInt8) (x1:List UInt8) (x2:List UInt8) (x3:List UInt8) (x4:Int):zZ [.s x0,.s x1,.s x2,.s x3,.i x4]=(.br (okR (qe [(.r [[(.s x0)],[(.s x3)]]),(.i x4)])) (.br (okR (qe [(.r [[(.s x1)],[(.s x2)]]),(.i (gI (qe [(.r [[(.s x0)],[(.s x3)]]),(.i x4)]) 1))])) (.leaf (0,[(.s (gS (qe [(.r [[(.s x0)],[(.s x3)]]),(.i x4)]) 0)),(.s (gS (qe [(.r [[(.s x1)],[(.s x2)]]),(.i (gI (qe [(.r [[(.s x0)],[(.s x3)]]),(.i x4)]) 1))]) 0)),(.i (gI (qe [(.r [[(.s x1)],[(.s x2)]]),(.i (gI (qe [(.r [[(.s x0)],[(.s x3)]]),(.i x4)]) 1))]) 1))])) .fail) .fail):=by kernel_rfl
theorem qc9 (x0:List UInt8) (x1:List UInt8):wQ [.s x0,.s x1]=(.br (okR (za [(.r [[(.s x0)],[(.s x1)]])])) (.br (ine (gI (za [(.r [[(.s x0)],[(.s x1)]])]) 0) 0) (.leaf (0,[(.s []),(.i (gI (za [(.r [[(.s x0)],[(.s x1)]])]) 0))])) (.br (okR (q9 [(.s x0)])) (.br (okR (q9 [(.s x1)])) (.br (okR (zZ [(.s (gS (q9 [(.s x0)]) 0)),(.s (gS (q9 [(.s x0)]) 1)),(.s (gS (q9 [(.s x1)]) 0)),(.s (gS (q9 [(.s x1)]) 1)),(.i 0)])) (.br (ine (gI (zZ [(.s (gS (q9 [(.s x0)]) 0)),(.s (gS (q9 [(.s x0)]) 1)),(.s (gS (q9 [(.s x1)]) 0)),(.s (gS (q9 [(.s x1)]) 1)),(.i 0)]) 2) 0) (.leaf (0,[(.s []),(.i (gI (zZ [(.s (gS (q9 [(.s x0)]) 0)),(.s (gS (q9 [(.s x0)]) 1)),(.s (gS (q9 [(.s x1)]) 0)),(.s (gS (q9 [(.s x1)]) 1)),(.i 0)]) 2))])) (.br (seq (gS (zZ [(.s (gS (q9 [(.s x0)]) 0)),(.s (gS (q9 [(.s x0)]) 1)),(.s (gS (q9 [(.s x1)]) 0)),(.s (gS (q9 [(.s x1)]) 1)),(.i 0)]) 1) [48]) (.leaf (0,[(.s []),(.i 10)])) (.br (okR (qX [(.s (gS (zZ [(.s (gS (q9 [(.s x0)]) 0)),(.s (gS (q9 [(.s x0)]) 1)),(.s (gS (q9 [(.s x1)]) 0)),(.s (gS (q9 [(.s x1)]) 1)),(.i 0)]) 0)),(.s (gS (zZ [(.s (gS (q9 [(.s x0)]) 0)),(.s (gS (q9 [(.s x0)]) 1)),(.s (gS (q9 [(.s x1)]) 0)),(.s (gS (q9 [(.s x1)]) 1)),(.i 0)]) 1)),(.i (gI (zZ [(.s (gS (q9 [(.s x0)]) 0)),(.s (gS (q9 [(.s x0)]) 1)),(.s (gS (q9 [(.s x1)]) 0)),(.s (gS (q9 [(.s x1)]) 1)),(.i 0)]) 2))])) (.leaf (0,[(.s (gS (qX [(.s (gS (zZ [(.s (gS (q9 [(.s x0)]) 0)),(.s (gS (q9 [(.s x0)]) 1)),(.s (gS (q9 [(.s x1)]) 0)),(.s (gS (q9 [(.s x1)]) 1)),(.i 0)]) 0)),(.s (gS (zZ [(.s (gS (q9 [(.s x0)]) 0)),(.s (gS (q9 [(.s x0)]) 1)),(.s (gS (q9 [(.s x1)]) 0)),(.s (gS (q9 [(.s x1)]) 1)),(.i 0)]) 1)),(.i (gI (zZ [(.s (gS (q9 [(.s x0)]) 0)),(.s (gS (q9 [(.s x0)]) 1)),(.s (gS (q9 [(.s x1)]) 0)),(.s (gS (q9 [(.s x1)]) 1)),(.i 0)]) 2))]) 0)),(.i (gI (qX [(.s (gS (zZ [(.s (gS (q9 [(.s x0)]) 0)),(.s (gS (q9 [(.s x0)]) 1)),(.s (gS (q9 [(.s x1)]) 0)),(.s (gS (q9 [(.s x1)]) 1)),(.i 0)]) 0)),(.s (gS (zZ [(.s (gS (q9 [(.s x0)]) 0)),(.s (gS (q9 [(.s x0)]) 1)),(.s (gS (q9 [(.s x1)]) 0)),(.s (gS (q9 [(.s x1)]) 1)),(.i 0)]) 1)),(.i (gI (zZ [(.s (gS (q9 [(.s x0)]) 0)),(.s (gS (q9 [(.s x0)]) 1)),(.s (gS (q9 [(.s x1)]) 0)),(.s (gS (q9 [(.s x1)]) 1)),(.i 0)]) 2))]) 1))])) .fail))) .fail) .fail) .fail)) .fail):=by kernel_rfl
theorem qvV (x0:List UInt8) (x1:List UInt8):q0m [.s x0,.s x1]=(.br (okR (za [(.r [[(.s x0)],[(.s x1)]])])) (.br (ine (gI (za [(.r [[(.s x0)],[(.s x1)]])]) 0) 0) (.leaf (0,[(.s []),(.i (gI (za [(.r [[(.s x0)],[(.s x1)]])]) 0))])) (.br (seq x1 [48]) (.leaf (0,[(.s []),(.i 10)])) (.br (okR (wQ [(.s x0),(.s x1)])) (.leaf (0,[(.s (gS (wQ [(.s x0),(.s x1)]) 0)),(.i (gI (wQ [(.s x0),(.s x1)]) 1))])) .fail))) .fail):=by kernel_rfl
theorem qb1 (x0:List UInt8) (x1:List UInt8) (x2:Int):vh [.s x0,.s x1,.i x2]=(.br (ine x2 0) (.leaf (0,[(.s [48]),(.i x2)])) (.br (okR (q0m [(.s x0),(.s x1)])) (.br (ine (gI (q0m [(.s x0),(.s x1)]) 1) 0) (.leaf (0,[(.s [48]),(.i (gI (q0m [(.s x0),(.s x1)]) 1))])) (.leaf (0,[(.s (gS (q0m [(.s x0),(.s x1)]) 0)),(.i (gI (q0m [(.s x0),(.s x1)]) 1))]))) .fail)):=by kernel_rfl
theorem qiG (x0:R) (x1:Int) (x2:Int) (x3:Int) (x4:Int):jF [.r x0,.i x1,.i x2,.i x3,.i x4]=(.br (inb x1 (qH x0)) (.br (inb x2 (qH x0)) (.br (ieq x1 x2) (.leaf (0,[(.s (cS x0 x1 0)),(.s (cS x0 x1 1)),(.s [48]),(.s [48]),(.s [48]),(.b (ieq x3 0)),(.i x4)])) (let r0:TR:=(qR [(.s (cS x0 x2 0)),(.s (cS x0 x2 1)),(.s (cS x0 x1 0)),(.s (cS x0 x1 1)),(.i x4)])
 .br (okR r0) (let r1:TR:=(wk [(.s (gS r0 0)),(.s (gS r0 1)),(.s (gS r0 0)),(.s (gS r0 1)),(.i (gI r0 2))])
 .br (okR r1) (.br (seq (gS r1 0) [48]) (.leaf (0,[(.s []),(.s []),(.s []),(.s []),(.s []),(.b false),(.i (gI r1 1))])) (let r2:TR:=(zM [(.s (gS r1 0)),(.s (cS x0 x1 2)),(.i (gI r1 1))])
 .br (okR r2) (let r3:TR:=(qG [(.s (gS r2 0)),(.s (cS x0 x2 2)),(.i (gI r2 1))])
 .br (okR r3) (let r4:TR:=(qC [(.s [50]),(.s (gS r1 0)),(.i (gI r3 1))])
 .br (okR r4) (let r5:TR:=(vh [(.s (gS r3 0)),(.s (gS r4 0)),(.i (gI r4 1))])
 .br (okR r5) (let r6:TR:=(qC [(.s (gS r5 0)),(.s (gS r0 0)),(.i (gI r5 1))])
 .br (okR r6) (let r7:TR:=(zM [(.s (cS x0 x1 0)),(.s (gS r6 0)),(.i (gI r6 1))])
 .br (okR r7) (let r8:TR:=(qC [(.s (gS r5 0)),(.s (gS r0 1)),(.i (gI r7 1))])
 .br (okR r8) (let r9:TR:=(zM [(.s (cS x0 x1 1)),(.s (gS r8 0)),(.i (gI r8 1))])
 .br (okR r9) (let r10:TR:=(qG [(.s [48]),(.s (gS r0 1)),(.i (gI r9 1))])
 .br (okR r10) (let r11:TR:=(vh [(.s (cS x0 x1 2)),(.s (gS r1 0)),(.i (gI r10 1))])
 .br (okR r11) (let r12:TR:=(qC [(.s (gS r5 0)),(.s (gS r5 0)),(.i (gI r11 1))])
 .br (okR r12) (let r13:TR:=(qG [(.s (gS r11 0)),(.s (gS r12 0)),(.i (gI r12 1))])
 .br (okR r13) (.br (ilt x3 0) (let r14:TR:=(qG [(.s [48]),(.s (gS r0 0)),(.i (gI r13 1))])
 .br (okR r14) (.br (ieq (gI r14 1) 0) (.br (inb 0 (qF (gS r13 0))) (.br (ine (sat (gS r13 0) 0) 45) (.leaf (0,[(.s (gS r7 0)),(.s (gS r9 0)),(.s (gS r0 1)),(.s (gS r14 0)),(.s (gS r13 0)),(.b (beq (seq (gS r13 0) [48]) (ieq x3 0))),(.i (gI r14 1))])) (.leaf (0,[(.s (gS r7 0)),(.s (gS r9 0)),(.s (gS r0 1)),(.s (gS r14 0)),(.s (gS r13 0)),(.b false),(.i (gI r14 1))]))) .fail) (.leaf (0,[(.s (gS r7 0)),(.s (gS r9 0)),(.s (gS r0 1)),(.s (gS r14 0)),(.s (gS r13 0)),(.b false),(.i (gI r14 1))]))) .fail) (.br (ieq (gI r13 1) 0) (.br (inb 0 (qF (gS r13 0))) (.br (ine (sat (gS r13 0) 0) 45) (.leaf (0,[(.s (gS r7 0)),(.s (gS r9 0)),(.s (gS r10 0)),(.s (gS r0 0)),(.s (gS r13 0)),(.b (beq (seq (gS r13 0) [48]) (ieq x3 0))),(.i (gI r13 1))])) (.leaf (0,[(.s (gS r7 0)),(.s (gS r9 0)),(.s (gS r10 0)),(.s (gS r0 0)),(.s (gS r13 0)),(.b false),(.i (gI r13 1))]))) .fail) (.leaf (0,[(.s (gS r7 0)),(.s (gS r9 0)),(.s (gS r10 0)),(.s (gS r0 0)),(.s (gS r13 0)),(.b false),(.i (gI r13 1))])))) .fail) .fail) .fail) .fail) .fail) .fail) .fail) .fail) .fail) .fail) .fail) .fail)) .fail) .fail)) .fail) .fail):=by kernel_rfl
theorem qjc (x0:List UInt8) (x1:List UInt8) (x2:List UInt8) (x3:List UInt8) (x4:List UInt8) (x5:List UInt8) (x6:List UInt8) (x7:List UInt8) (x8:Int):vo [.s x0,.s x1,.s x2,.s x3,.s x4,.s x5,.s x6,.s x7,.i x8]=(let r0:TR:=(qR [(.s x3),(.s x4),(.s x0),(.s x1),(.i x8)])
 .br (okR r0) (let r1:TR:=(wk [(.s (gS r0 0)),(.s (gS r0 1)),(.s (gS r0 0)),(.s (gS r0 1)),(.i (gI r0 2))])
 .br (okR r1) (let r2:TR:=(wk [(.s x5),(.s x6),(.s x5),(.s x6),(.i (gI r1 1))])
 .br (okR r2) (let r3:TR:=(qC [(.s x7),(.s (gS r2 0)),(.i (gI r2 1))])
 .br (okR r3) (let r4:TR:=(zM [(.s (gS r1 0)),(.s (gS r3 0)),(.i (gI r3 1))])
 .br (okR r4) (let r5:TR:=(qG [(.s (gS r4 0)),(.s x2),(.i (gI r4 1))])
 .br (okR r5) (let r6:TR:=(wk [(.s (gS r0 0)),(.s (gS r0 1)),(.s x5),(.s x6),(.i (gI r5 1))])
 .br (okR r6) (let r7:TR:=(qC [(.s [50]),(.s (gS r6 0)),(.i (gI r6 1))])
 .br (okR r7) (let r8:TR:=(wP [(.s (gS r5 0)),(.s (gS r7 0)),(.s x7),(.i (gI r7 1))])
 .br (okR r8) (.leaf (0,[(.b (ile (gI r8 0) 0)),(.i (gI r8 1))])) .fail) .fail) .fail) .fail) .fail) .fail) .fail) .fail) .fail):=by kernel_rfl
theorem kz (y0:R) (y1:Int) (y2:Int) (y3:R) (y4:R) (y5:R) (y6:Int) (y7:Int) (y8:Int) (y9:Bool) (y10:List UInt8) (y11:List UInt8) (y12:List UInt8) (y13:List UInt8) (y14:List UInt8) (y15:Bool) (y16:R) (y17:Int) (y18:Int) (y19:Int) (y20:List UInt8) (y21:List UInt8) (y22:List UInt8) (y23:List UInt8) (y24:List UInt8) (y25:Bool) (y26:List UInt8) (y27:List UInt8) (y28:List UInt8) (y29:List UInt8) (y30:List UInt8) (y31:Bool) (y32:Bool) (y33:R) (y34:Int) (y35:Int) (y36:Int) (y37:Int) (y38:List UInt8) (y39:List UInt8) (y40:List UInt8) (y41:List UInt8) (y42:List UInt8):j6 [.r y0,.i y1,.i y2,.r y3,.r y4,.r y5,.i y6,.i y7,.i y8,.b y9,.s y10,.s y11,.s y12,.s y13,.s y14,.b y15,.r y16,.i y17,.i y18,.i y19,.s y20,.s y21,.s y22,.s y23,.s y24,.b y25,.s y26,.s y27,.s y28,.s y29,.s y30,.b y31,.b y32,.r y33,.i y34,.i y35,.i y36,.i y37,.s y38,.s y39,.s y40,.s y41,.s y42]=(.br (ilt y2 y1) (.br (inb y2 (qH y0)) (.br (okR (vo [(.s (cS y0 y2 0)),(.s (cS y0 y2 1)),(.s (cS y0 y2 2)),(.s y38),(.s y39),(.s y40),(.s y41),(.s y42),(.i y34)])) (.br (not (gB (vo [(.s (cS y0 y2 0)),(.s (cS y0 y2 1)),(.s (cS y0 y2 2)),(.s y38),(.s y39),(.s y40),(.s y41),(.s y42),(.i y34)]) 0)) (.leaf (2,[(.i y2),(.r y3),(.r y4),(.r y5),(.i y6),(.i y7),(.i y8),(.b y9),(.s y10),(.s y11),(.s y12),(.s y13),(.s y14),(.b y15),(.r y16),(.i y17),(.i y18),(.i y19),(.s y20),(.s y21),(.s y22),(.s y23),(.s y24),(.b y25),(.s y26),(.s y27),(.s y28),(.s y29),(.s y30),(.b y31),(.b y32),(.r y33),(.i (gI (vo [(.s (cS y0 y2 0)),(.s (cS y0 y2 1)),(.s (cS y0 y2 2)),(.s y38),(.s y39),(.s y40),(.s y41),(.s y42),(.i y34)]) 1)),(.i y35),(.i y36),(.i y37),(.s y38),(.s y39),(.s y40),(.s y41),(.s y42)])) (.leaf (0,[(.r y0),(.i y1),(.i (qw .i64 y2 1)),(.r y3),(.r y4),(.r y5),(.i y6),(.i y7),(.i y8),(.b y9),(.s y10),(.s y11),(.s y12),(.s y13),(.s y14),(.b y15),(.r y16),(.i y17),(.i y18),(.i y19),(.s y20),(.s y21),(.s y22),(.s y23),(.s y24),(.b y25),(.s y26),(.s y27),(.s y28),(.s y29),(.s y30),(.b y31),(.b y32),(.r y33),(.i (gI (vo [(.s (cS y0 y2 0)),(.s (cS y0 y2 1)),(.s (cS y0 y2 2)),(.s y38),(.s y39),(.s y40),(.s y41),(.s y42),(.i y34)]) 1)),(.i y35),(.i y36),(.i y37),(.s y38),(.s y39),(.s y40),(.s y41),(.s y42)]))) .fail) .fail) (.leaf (1,[(.r y3),(.r y4),(.r y5),(.i y6),(.i y7),(.i y8),(.b y9),(.s y10),(.s y11),(.s y12),(.s y13),(.s y14),(.b y15),(.r y16),(.i y17),(.i y18),(.i y19),(.s y20),(.s y21),(.s y22),(.s y23),(.s y24),(.b y25),(.s y26),(.s y27),(.s y28),(.s y29),(.s y30),(.b y31),(.b y32),(.r y33),(.i y34),(.i y35),(.i y36),(.i y37),(.s y38),(.s y39),(.s y40),(.s y41),(.s y42)]))):=by kernel_rfl
theorem qhn (x0:R) (x1:Int) (x2:Int) (x3:Int) (x4:Int):qU [.r x0,.i x1,.i x2,.i x3,.i x4]=(let r0:TR:=(jF [(.r x0),(.i x1),(.i x2),(.i x3),(.i x4)])
 .br (okR r0) (.br (gB r0 5) (let r1:TR:=(qg j6 [(.r x0),(.i (qH x0)),(.i 0),(.r x0),(.r x0),(.r x0),(.i x1),(.i x2),(.i x3),(.b (gB r0 5)),(.s (gS r0 0)),(.s (gS r0 1)),(.s (gS r0 2)),(.s (gS r0 3)),(.s (gS r0 4)),(.b (gB r0 5)),(.r x0),(.i x1),(.i x2),(.i x3),(.s (gS r0 0)),(.s (gS r0 1)),(.s (gS r0 2)),(.s (gS r0 3)),(.s (gS r0 4)),(.b (gB r0 5)),(.s (gS r0 0)),(.s (gS r0 1)),(.s (gS r0 2)),(.s (gS r0 3)),(.s (gS r0 4)),(.b (gB r0 5)),(.b (gB r0 5)),(.r x0),(.i (gI r0 6)),(.i x1),(.i x2),(.i x3),(.s (gS r0 0)),(.s (gS r0 1)),(.s (gS r0 2)),(.s (gS r0 3)),(.s (gS r0 4))])
 .br (okR r1) (.br (jIs r1 0) (.leaf (0,[(.b (ieq (gI r1 31) 0)),(.i (gI r1 31))])) (.br (not (ile 0 (gI r1 0))) (.leaf (0,[(.b (ieq (gI r1 32) 0)),(.i (gI r1 32))])) (.leaf (0,[(.b false),(.i (gI r1 32))])))) .fail) (.leaf (0,[(.b false),(.i (gI r0 6))]))) .fail):=by kernel_rfl
theorem q4b (y0:Int) (y1:Int) (y2:Int) (y3:R) (y4:Int) (y5:Int) (y6:Int) (y7:Bool) (y8:Int):ju [.i y0,.i y1,.i y2,.r y3,.i y4,.i y5,.i y6,.b y7,.i y8]=(.br (ilt y1 y0) (.br (okR (qU [(.r y3),(.i y1),(.i y1),(.i 0),(.i y2)])) (.br (gB (qU [(.r y3),(.i y1),(.i y1),(.i 0),(.i y2)]) 0) (.leaf (2,[(.i (gI (qU [(.r y3),(.i y1),(.i y1),(.i 0),(.i y2)]) 1)),(.r y3),(.i y1),(.i y1),(.i 0),(.b true),(.i y8)])) (.leaf (0,[(.i y0),(.i (qw .i64 y1 1)),(.i (gI (qU [(.r y3),(.i y1),(.i y1),(.i 0),(.i y2)]) 1)),(.r y3),(.i y4),(.i y5),(.i y6),(.b y7),(.i y8)]))) .fail) (.leaf (1,[(.i y2),(.r y3),(.i y4),(.i y5),(.i y6),(.b y7),(.i y8)]))):=by kernel_rfl
theorem q3D (y0:Int) (y1:Int) (y2:Int) (y3:Int) (y4:Int) (y5:Int) (y6:Int) (y7:R) (y8:Int) (y9:Int) (y10:Int) (y11:Bool) (y12:Int) (y13:R):j5 [.i y0,.i y1,.i y2,.i y3,.i y4,.i y5,.i y6,.r y7,.i y8,.i y9,.i y10,.b y11,.i y12,.r y13]=(.br (ilt y5 y4) (.br (inb y5 (qH y13)) (.br (okR (qU [(.r y7),(.i y0),(.i y1),(.i (cI y13 y5 0)),(.i y6)])) (.br (gB (qU [(.r y7),(.i y0),(.i y1),(.i (cI y13 y5 0)),(.i y6)]) 0) (.leaf (2,[(.i (gI (qU [(.r y7),(.i y0),(.i y1),(.i (cI y13 y5 0)),(.i y6)]) 1)),(.r y7),(.i y0),(.i y1),(.i (cI y13 y5 0)),(.b true),(.i y12)])) (.leaf (0,[(.i y0),(.i y1),(.i y2),(.i y3),(.i y4),(.i (qw .i64 y5 1)),(.i (gI (qU [(.r y7),(.i y0),(.i y1),(.i (cI y13 y5 0)),(.i y6)]) 1)),(.r y7),(.i y8),(.i y9),(.i y10),(.b y11),(.i y12),(.r y13)]))) .fail) .fail) (.leaf (1,[(.i y0),(.i y1),(.i y2),(.i y3),(.i y6),(.r y7),(.i y8),(.i y9),(.i y10),(.b y11),(.i y12)]))):=by kernel_rfl
theorem q3C (y0:Int) (y1:Int) (y2:Int) (y3:Int) (y4:Int) (y5:R) (y6:Int) (y7:Int) (y8:Int) (y9:Bool) (y10:Int):j3 [.i y0,.i y1,.i y2,.i y3,.i y4,.r y5,.i y6,.i y7,.i y8,.b y9,.i y10]=(.br (ilt y1 y10) (let r0:TR:=(qg j5 [(.i y0),(.i y1),(.i y2),(.i y3),(.i (qH [[(.i 0)],[(.i 1)],[(.i (-1))]])),(.i 0),(.i y4),(.r y5),(.i y6),(.i y7),(.i y8),(.b y9),(.i y10),(.r [[(.i 0)],[(.i 1)],[(.i (-1))]])])
 .br (okR r0) (.br (jIs r0 0) (.leaf (0,[(.i (gI r0 0)),(.i (qw .i64 (gI r0 1) 1)),(.i (gI r0 2)),(.i (gI r0 3)),(.i (gI r0 4)),(.r (gR r0 5)),(.i (gI r0 6)),(.i (gI r0 7)),(.i (gI r0 8)),(.b (gB r0 9)),(.i (gI r0 10))])) (.leaf (2,[(.i (gI r0 0)),(.r (gR r0 1)),(.i (gI r0 2)),(.i (gI r0 3)),(.i (gI r0 4)),(.b (gB r0 5)),(.i (gI r0 6))]))) .fail) (.leaf (1,[(.i y2),(.i y3),(.i y4),(.r y5),(.i y6),(.i y7),(.i y8),(.b y9),(.i y10)]))):=by kernel_rfl
theorem q48 (y0:Int) (y1:Int) (y2:Int) (y3:R) (y4:Int) (y5:Int) (y6:Int) (y7:Bool) (y8:Int):jw [.i y0,.i y1,.i y2,.r y3,.i y4,.i y5,.i y6,.b y7,.i y8]=(.br (ilt y1 y0) (let r0:TR:=(qg j3 [(.i y1),(.i (qw .i64 y1 1)),(.i y0),(.i y1),(.i y2),(.r y3),(.i y4),(.i y5),(.i y6),(.b y7),(.i y8)])
 .br (okR r0) (.br (jIs r0 0) (.leaf (0,[(.i (gI r0 0)),(.i (qw .i64 (gI r0 1) 1)),(.i (gI r0 2)),(.r (gR r0 3)),(.i (gI r0 4)),(.i (gI r0 5)),(.i (gI r0 6)),(.b (gB r0 7)),(.i (gI r0 8))])) (.leaf (2,[(.i (gI r0 0)),(.r (gR r0 1)),(.i (gI r0 2)),(.i (gI r0 3)),(.i (gI r0 4)),(.b (gB r0 5)),(.i (gI r0 6))]))) .fail) (.leaf (1,[(.i y2),(.r y3),(.i y4),(.i y5),(.i y6),(.b y7),(.i y8)]))):=by kernel_rfl
theorem qiS (x0:R) (x1:Int):qV [.r x0,.i x1]=(let r0:TR:=(qg ju [(.i (qH x0)),(.i 0),(.i x1),(.r x0),(.i 0),(.i 0),(.i 0),(.b false),(.i (qH x0))])
 .br (okR r0) (.br (jIs r0 0) (let r1:TR:=(qg jw [(.i (gI r0 6)),(.i 0),(.i (gI r0 0)),(.r (gR r0 1)),(.i (gI r0 2)),(.i (gI r0 3)),(.i (gI r0 4)),(.b (gB r0 5)),(.i (gI r0 6))])
 .br (okR r1) (.br (jIs r1 0) (.leaf (0,[(.i 0),(.i 0),(.i 0),(.b false),(.i (gI r1 0))])) (.leaf (0,[(.i (gI r1 2)),(.i (gI r1 3)),(.i (gI r1 4)),(.b (gB r1 5)),(.i (gI r1 0))]))) .fail) (.leaf (0,[(.i (gI r0 2)),(.i (gI r0 3)),(.i (gI r0 4)),(.b (gB r0 5)),(.i (gI r0 0))]))) .fail):=by kernel_rfl
theorem qfB (x0:R):zn [.r x0]=(.br (okR (zl [(.r x0)])) (.br (ine (gI (zl [(.r x0)]) 0) 0) (.leaf (0,[(.b false),(.i 0),(.i 0),(.i 0),(.i (gI (zl [(.r x0)]) 0))])) (.br (okR (qV [(.r x0),(.i 0)])) (.br (ine (gI (qV [(.r x0),(.i 0)]) 4) 0) (.leaf (0,[(.b false),(.i 0),(.i 0),(.i 0),(.i (gI (qV [(.r x0),(.i 0)]) 4))])) (.leaf (0,[(.b (gB (qV [(.r x0),(.i 0)]) 3)),(.i (gI (qV [(.r x0),(.i 0)]) 0)),(.i (gI (qV [(.r x0),(.i 0)]) 1)),(.i (gI (qV [(.r x0),(.i 0)]) 2)),(.i 0)]))) .fail)) .fail):=by kernel_rfl
theorem q1B (y0:Int) (y1:Int) (y2:Int) (y3:Int) (y4:Int) (y5:Int) (y6:Int) (y7:R) (y8:Int) (y9:Int) (y10:Int) (y11:R) (y12:Int) (y13:R) (y14:R):wj [.i y0,.i y1,.i y2,.i y3,.i y4,.i y5,.i y6,.r y7,.i y8,.i y9,.i y10,.r y11,.i y12,.r y13,.r y14]=(.br (ilt y1 y0) (.br (inb y1 (qH y13)) (.br (inb (cI y13 y1 0) (qH y11)) (.br (ile ((qH y14)+(qH [[(.s (cS y11 (cI y13 y1 0) 0)),(.s (cS y11 (cI y13 y1 0) 1)),(.s (cS y11 (cI y13 y1 0) 2))]])) 2932031007402) (.leaf (0,[(.i y0),(.i (qw .i64 y1 1)),(.i y2),(.i y3),(.i y4),(.i y5),(.i y6),(.r y7),(.i y8),(.i y9),(.i y10),(.r y11),(.i y12),(.r y13),(.r (qgA y14 [[(.s (cS y11 (cI y13 y1 0) 0)),(.s (cS y11 (cI y13 y1 0) 1)),(.s (cS y11 (cI y13 y1 0) 2))]]))])) .fail) .fail) .fail) (.leaf (1,[(.i y2),(.i y3),(.i y4),(.i y5),(.i y6),(.r y7),(.i y8),(.i y9),(.i y10),(.r y11),(.i y12),(.r y13),(.r y14)]))):=by kernel_rfl
theorem q4g (y0:Int) (y1:Int) (y2:Int) (y3:Int) (y4:R) (y5:Int):zh [.i y0,.i y1,.i y2,.i y3,.r y4,.i y5]=(.br (ilt y1 (qH y4)) (let r0:TR:=(qg wj [(.i (qH [[(.i y0)],[(.i y1)]])),(.i 0),(.i y0),(.i y1),(.i y2),(.i y3),(.i y1),(.r y4),(.i (qH y4)),(.i y0),(.i y1),(.r y4),(.i y5),(.r [[(.i y0)],[(.i y1)]]),(.r [])])
 .br (okR r0) (let r1:TR:=(qV [(.r (gR r0 12)),(.i (gI r0 10))])
 .br (okR r1) (.br (not (gB r1 3)) (.br (ieq (gI r1 4) 0) (.leaf (2,[(.i 0),(.r [[(.i (gI r0 0))],[(.i (gI r0 1))]])])) (.leaf (0,[(.i (gI r0 0)),(.i (qw .i64 (gI r0 1) 1)),(.i (gI r0 2)),(.i (gI r0 3)),(.r (gR r0 9)),(.i (gI r1 4))]))) (.leaf (0,[(.i (gI r0 0)),(.i (qw .i64 (gI r0 1) 1)),(.i (gI r0 2)),(.i (gI r0 3)),(.r (gR r0 9)),(.i (gI r1 4))]))) .fail) .fail) (.leaf (1,[(.i y2),(.i y3),(.r y4),(.i y5)]))):=by kernel_rfl
theorem q55 (y0:Int) (y1:Int) (y2:R) (y3:Int):qz [.i y0,.i y1,.r y2,.i y3]=(.br (ilt y1 y0) (.br (okR (qg zh [(.i y1),(.i (qw .i64 y1 1)),(.i y0),(.i y1),(.r y2),(.i y3)])) (.br (jIs (qg zh [(.i y1),(.i (qw .i64 y1 1)),(.i y0),(.i y1),(.r y2),(.i y3)]) 0) (.leaf (0,[(.i (gI (qg zh [(.i y1),(.i (qw .i64 y1 1)),(.i y0),(.i y1),(.r y2),(.i y3)]) 0)),(.i (qw .i64 (gI (qg zh [(.i y1),(.i (qw .i64 y1 1)),(.i y0),(.i y1),(.r y2),(.i y3)]) 1) 1)),(.r (gR (qg zh [(.i y1),(.i (qw .i64 y1 1)),(.i y0),(.i y1),(.r y2),(.i y3)]) 2)),(.i (gI (qg zh [(.i y1),(.i (qw .i64 y1 1)),(.i y0),(.i y1),(.r y2),(.i y3)]) 3))])) (.leaf (2,[(.i (gI (qg zh [(.i y1),(.i (qw .i64 y1 1)),(.i y0),(.i y1),(.r y2),(.i y3)]) 0)),(.r (gR (qg zh [(.i y1),(.i (qw .i64 y1 1)),(.i y0),(.i y1),(.r y2),(.i y3)]) 1))]))) .fail) (.leaf (1,[(.r y2),(.i y3)]))):=by kernel_rfl
theorem q1E (y0:Int) (y1:Int) (y2:Int) (y3:Int) (y4:Int) (y5:Int) (y6:Int) (y7:Int) (y8:R) (y9:Int) (y10:Int) (y11:Int) (y12:Int) (y13:R) (y14:Int) (y15:R) (y16:R):wo [.i y0,.i y1,.i y2,.i y3,.i y4,.i y5,.i y6,.i y7,.r y8,.i y9,.i y10,.i y11,.i y12,.r y13,.i y14,.r y15,.r y16]=(.br (ilt y1 y0) (.br (inb y1 (qH y15)) (.br (inb (cI y15 y1 0) (qH y13)) (.br (ile ((qH y16)+(qH [[(.s (cS y13 (cI y15 y1 0) 0)),(.s (cS y13 (cI y15 y1 0) 1)),(.s (cS y13 (cI y15 y1 0) 2))]])) 2932031007402) (.leaf (0,[(.i y0),(.i (qw .i64 y1 1)),(.i y2),(.i y3),(.i y4),(.i y5),(.i y6),(.i y7),(.r y8),(.i y9),(.i y10),(.i y11),(.i y12),(.r y13),(.i y14),(.r y15),(.r (qgA y16 [[(.s (cS y13 (cI y15 y1 0) 0)),(.s (cS y13 (cI y15 y1 0) 1)),(.s (cS y13 (cI y15 y1 0) 2))]]))])) .fail) .fail) .fail) (.leaf (1,[(.i y2),(.i y3),(.i y4),(.i y5),(.i y6),(.i y7),(.r y8),(.i y9),(.i y10),(.i y11),(.i y12),(.r y13),(.i y14),(.r y15),(.r y16)]))):=by kernel_rfl
theorem q3Y (y0:Int) (y1:Int) (y2:Int) (y3:Int) (y4:Int) (y5:R) (y6:Int):qY [.i y0,.i y1,.i y2,.i y3,.i y4,.r y5,.i y6]=(.br (ilt y2 (qH y5)) (let r0:TR:=(qg wo [(.i (qH [[(.i y0)],[(.i y1)],[(.i y2)]])),(.i 0),(.i y0),(.i y1),(.i y2),(.i y3),(.i y4),(.i y2),(.r y5),(.i (qH y5)),(.i y0),(.i y1),(.i y2),(.r y5),(.i y6),(.r [[(.i y0)],[(.i y1)],[(.i y2)]]),(.r [])])
 .br (okR r0) (let r1:TR:=(qV [(.r (gR r0 14)),(.i (gI r0 12))])
 .br (okR r1) (.br (not (gB r1 3)) (.br (ieq (gI r1 4) 0) (.leaf (2,[(.i 0),(.r [[(.i (gI r0 0))],[(.i (gI r0 1))],[(.i (gI r0 2))]])])) (.leaf (0,[(.i (gI r0 0)),(.i (gI r0 1)),(.i (qw .i64 (gI r0 2) 1)),(.i (gI r0 3)),(.i (gI r0 4)),(.r (gR r0 11)),(.i (gI r1 4))]))) (.leaf (0,[(.i (gI r0 0)),(.i (gI r0 1)),(.i (qw .i64 (gI r0 2) 1)),(.i (gI r0 3)),(.i (gI r0 4)),(.r (gR r0 11)),(.i (gI r1 4))]))) .fail) .fail) (.leaf (1,[(.i y0),(.i y1),(.i y3),(.i y4),(.r y5),(.i y6)]))):=by kernel_rfl
theorem q43 (y0:Int) (y1:Int) (y2:Int) (y3:Int) (y4:R) (y5:Int):zk [.i y0,.i y1,.i y2,.i y3,.r y4,.i y5]=(.br (ilt y1 (qH y4)) (.br (okR (qg qY [(.i y0),(.i y1),(.i (qw .i64 y1 1)),(.i y2),(.i y3),(.r y4),(.i y5)])) (.br (jIs (qg qY [(.i y0),(.i y1),(.i (qw .i64 y1 1)),(.i y2),(.i y3),(.r y4),(.i y5)]) 0) (.leaf (0,[(.i (gI (qg qY [(.i y0),(.i y1),(.i (qw .i64 y1 1)),(.i y2),(.i y3),(.r y4),(.i y5)]) 0)),(.i (qw .i64 (gI (qg qY [(.i y0),(.i y1),(.i (qw .i64 y1 1)),(.i y2),(.i y3),(.r y4),(.i y5)]) 1) 1)),(.i (gI (qg qY [(.i y0),(.i y1),(.i (qw .i64 y1 1)),(.i y2),(.i y3),(.r y4),(.i y5)]) 2)),(.i (gI (qg qY [(.i y0),(.i y1),(.i (qw .i64 y1 1)),(.i y2),(.i y3),(.r y4),(.i y5)]) 3)),(.r (gR (qg qY [(.i y0),(.i y1),(.i (qw .i64 y1 1)),(.i y2),(.i y3),(.r y4),(.i y5)]) 4)),(.i (gI (qg qY [(.i y0),(.i y1),(.i (qw .i64 y1 1)),(.i y2),(.i y3),(.r y4),(.i y5)]) 5))])) (.leaf (2,[(.i (gI (qg qY [(.i y0),(.i y1),(.i (qw .i64 y1 1)),(.i y2),(.i y3),(.r y4),(.i y5)]) 0)),(.r (gR (qg qY [(.i y0),(.i y1),(.i (qw .i64 y1 1)),(.i y2),(.i y3),(.r y4),(.i y5)]) 1))]))) .fail) (.leaf (1,[(.i y2),(.i y3),(.r y4),(.i y5)]))):=by kernel_rfl
theorem q3U (y0:Int) (y1:Int) (y2:R) (y3:Int):zJ [.i y0,.i y1,.r y2,.i y3]=(.br (ilt y1 y0) (.br (okR (qg zk [(.i y1),(.i (qw .i64 y1 1)),(.i y0),(.i y1),(.r y2),(.i y3)])) (.br (jIs (qg zk [(.i y1),(.i (qw .i64 y1 1)),(.i y0),(.i y1),(.r y2),(.i y3)]) 0) (.leaf (0,[(.i (gI (qg zk [(.i y1),(.i (qw .i64 y1 1)),(.i y0),(.i y1),(.r y2),(.i y3)]) 0)),(.i (qw .i64 (gI (qg zk [(.i y1),(.i (qw .i64 y1 1)),(.i y0),(.i y1),(.r y2),(.i y3)]) 1) 1)),(.r (gR (qg zk [(.i y1),(.i (qw .i64 y1 1)),(.i y0),(.i y1),(.r y2),(.i y3)]) 2)),(.i (gI (qg zk [(.i y1),(.i (qw .i64 y1 1)),(.i y0),(.i y1),(.r y2),(.i y3)]) 3))])) (.leaf (2,[(.i (gI (qg zk [(.i y1),(.i (qw .i64 y1 1)),(.i y0),(.i y1),(.r y2),(.i y3)]) 0)),(.r (gR (qg zk [(.i y1),(.i (qw .i64 y1 1)),(.i y0),(.i y1),(.r y2),(.i y3)]) 1))]))) .fail) (.leaf (1,[(.i y3)]))):=by kernel_rfl
theorem q65 (x0:R):zy [.r x0]=(.br (okR (zl [(.r x0)])) (.br (ine (gI (zl [(.r x0)]) 0) 0) (.leaf (0,[(.r []),(.i (gI (zl [(.r x0)]) 0))])) (.br (okR (qg qz [(.i (qH x0)),(.i 0),(.r x0),(.i 0)])) (.br (jIs (qg qz [(.i (qH x0)),(.i 0),(.r x0),(.i 0)]) 0) (.br (okR (qg zJ [(.i (qH (gR (qg qz [(.i (qH x0)),(.i 0),(.r x0),(.i 0)]) 0))),(.i 0),(.r (gR (qg qz [(.i (qH x0)),(.i 0),(.r x0),(.i 0)]) 0)),(.i (gI (qg qz [(.i (qH x0)),(.i 0),(.r x0),(.i 0)]) 1))])) (.br (jIs (qg zJ [(.i (qH (gR (qg qz [(.i (qH x0)),(.i 0),(.r x0),(.i 0)]) 0))),(.i 0),(.r (gR (qg qz [(.i (qH x0)),(.i 0),(.r x0),(.i 0)]) 0)),(.i (gI (qg qz [(.i (qH x0)),(.i 0),(.r x0),(.i 0)]) 1))]) 0) (.leaf (0,[(.r []),(.i (gI (qg zJ [(.i (qH (gR (qg qz [(.i (qH x0)),(.i 0),(.r x0),(.i 0)]) 0))),(.i 0),(.r (gR (qg qz [(.i (qH x0)),(.i 0),(.r x0),(.i 0)]) 0)),(.i (gI (qg qz [(.i (qH x0)),(.i 0),(.r x0),(.i 0)]) 1))]) 0))])) (.leaf (0,[(.r (gR (qg zJ [(.i (qH (gR (qg qz [(.i (qH x0)),(.i 0),(.r x0),(.i 0)]) 0))),(.i 0),(.r (gR (qg qz [(.i (qH x0)),(.i 0),(.r x0),(.i 0)]) 0)),(.i (gI (qg qz [(.i (qH x0)),(.i 0),(.r x0),(.i 0)]) 1))]) 1)),(.i (gI (qg zJ [(.i (qH (gR (qg qz [(.i (qH x0)),(.i 0),(.r x0),(.i 0)]) 0))),(.i 0),(.r (gR (qg qz [(.i (qH x0)),(.i 0),(.r x0),(.i 0)]) 0)),(.i (gI (qg qz [(.i (qH x0)),(.i 0),(.r x0),(.i 0)]) 1))]) 0))]))) .fail) (.leaf (0,[(.r (gR (qg qz [(.i (qH x0)),(.i 0),(.r x0),(.i 0)]) 1)),(.i (gI (qg qz [(.i (qH x0)),(.i 0),(.r x0),(.i 0)]) 0))]))) .fail)) .fail):=by kernel_rfl
theorem qu8 (x0:List UInt8) (x1:List UInt8) (x2:List UInt8):jt [.s x0,.s x1,.s x2]=(.leaf (0,[(.s x0),(.s x1),(.s x2)])):=by kernel_rfl
theorem q4i (y0:R) (y1:R) (y2:Int) (y3:Int):wT [.r y0,.r y1,.i y2,.i y3]=(.br (ilt y3 y2) (.br (inb y3 (qH y0)) (.br (inb y3 (qH y1)) (.br (ine (cI y0 y3 0) (cI y1 y3 0)) (.leaf (2,[(.b false)])) (.leaf (0,[(.r y0),(.r y1),(.i y2),(.i (qw .i64 y3 1))]))) .fail) .fail) (.leaf (1,[]))):=by kernel_rfl
theorem qdS (x0:R) (x1:R):vW [.r x0,.r x1]=(.br (ine (qH x0) (qH x1)) (.leaf (0,[(.b false)])) (.br (okR (qg wT [(.r x0),(.r x1),(.i (qH x0)),(.i 0)])) (.br (jIs (qg wT [(.r x0),(.r x1),(.i (qH x0)),(.i 0)]) 0) (.leaf (0,[(.b true)])) (.leaf (0,[(.b (gB (qg wT [(.r x0),(.r x1),(.i (qH x0)),(.i 0)]) 0))]))) .fail)):=by kernel_rfl
theorem qrO  : qS []=(let r0:TR:=(jt [(.s [48]),(.s [48]),(.s [52])])
 .br (okR r0) (let r1:TR:=(jt [(.s [52]),(.s [48]),(.s [52])])
 .br (okR r1) (let r2:TR:=(zn [(.r [[(.s (gS r0 0)),(.s (gS r0 1)),(.s (gS r0 2))],[(.s (gS r1 0)),(.s (gS r1 1)),(.s (gS r1 2))]])])
 .br (okR r2) (let r3:TR:=(jt [(.s [48]),(.s [48]),(.s [53])])
 .br (okR r3) (let r4:TR:=(jt [(.s [52]),(.s [48]),(.s [53])])
 .br (okR r4) (let r5:TR:=(zn [(.r [[(.s (gS r3 0)),(.s (gS r3 1)),(.s (gS r3 2))],[(.s (gS r4 0)),(.s (gS r4 1)),(.s (gS r4 2))]])])
 .br (okR r5) (let r6:TR:=(jt [(.s [48]),(.s [48]),(.s [49])])
 .br (okR r6) (let r7:TR:=(jt [(.s [52]),(.s [48]),(.s [49])])
 .br (okR r7) (let r8:TR:=(zy [(.r [[(.s (gS r6 0)),(.s (gS r6 1)),(.s (gS r6 2))],[(.s (gS r7 0)),(.s (gS r7 1)),(.s (gS r7 2))]])])
 .br (okR r8) (.br (okR r6) (let r9:TR:=(jt [(.s [50]),(.s [48]),(.s [49])])
 .br (okR r9) (let r10:TR:=(jt [(.s [49]),(.s [53,47,51]),(.s [49])])
 .br (okR r10) (let r11:TR:=(zy [(.r [[(.s (gS r6 0)),(.s (gS r6 1)),(.s (gS r6 2))],[(.s (gS r9 0)),(.s (gS r9 1)),(.s (gS r9 2))],[(.s (gS r10 0)),(.s (gS r10 1)),(.s (gS r10 2))]])])
 .br (okR r11) (.br (okR r6) (let r12:TR:=(jt [(.s [49]),(.s [48]),(.s [52])])
 .br (okR r12) (let r13:TR:=(jB [(.s (gS r6 0)),(.s (gS r6 1)),(.s (gS r6 2)),(.s (gS r12 0)),(.s (gS r12 1)),(.s (gS r12 2))])
 .br (okR r13) (.br (ieq (qw .i64 (qw .i64 (qw .i64 (qw .i64 (gI r2 4) (gI r5 4)) (gI r8 1)) (gI r11 1)) (gI r13 1)) 0) (.br (gB r2 0) (.br (qx9 (ieq (gI r2 1) 0) (qx9 (ieq (gI r2 2) 1) (qx9 (ieq (gI r2 3) 0) true))) (.br (gB r5 0) (.br (qx9 (ieq (gI r5 1) 0) (qx9 (ieq (gI r5 2) 1) (qx9 (ieq (gI r5 3) 1) true))) (let r14:TR:=(vW [(.r (gR r8 0)),(.r [[(.i 0)],[(.i 1)]])])
 .br (okR r14) (.br (gB r14 0) (let r15:TR:=(vW [(.r (gR r11 0)),(.r [[(.i 0)],[(.i 1)],[(.i 2)]])])
 .br (okR r15) (.br (gB r15 0) (.leaf (0,[(.b (ieq (gI r13 0) 2))])) (.leaf (0,[(.b false)]))) .fail) (.leaf (0,[(.b false)]))) .fail) (.leaf (0,[(.b false)]))) (.leaf (0,[(.b false)]))) (.leaf (0,[(.b false)]))) (.leaf (0,[(.b false)]))) (.leaf (0,[(.b false)]))) .fail) .fail) .fail) .fail) .fail) .fail) .fail) .fail) .fail) .fail) .fail) .fail) .fail) .fail) .fail) .fail):=by kernel_rfl
theorem qo7 (y0:List UInt8) (y1:Int):ki [.s y0,.i y1]=(.br (ilt y1 (qF y0)) (.br (inb y1 (qF y0)) (.br (ieq (sat y0 y1) 47) (.leaf (2,[(.i y1)])) (.leaf (0,[(.s y0),(.i (qw .i64 y1 1))]))) .fail) (.leaf (1,[]))):=by kernel_rfl
theorem qrm (x0:List UInt8):vm [.s x0]=(.br (okR (qg ki [(.s x0),(.i 0)])) (.br (jIs (qg ki [(.s x0),(.i 0)]) 0) (.leaf (0,[(.i (-1))])) (.leaf (0,[(.i (gI (qg ki [(.s x0),(.i 0)]) 0))]))) .fail):=by kernel_rfl
theorem qrK (x0:List UInt8):qA [.s x0]=(.br (okR (vm [(.s x0)])) (.br (ilt (gI (vm [(.s x0)]) 0) 0) (.leaf (0,[(.s x0),(.s [49])])) (.br (q7v (gI (vm [(.s x0)]) 0) (qF x0)) (.br (q7v 0 (gI (vm [(.s x0)]) 0)) (.br (q7v (qF x0) (qF x0)) (.br (q7v (qw .i64 (gI (vm [(.s x0)]) 0) 1) (qF x0)) (.leaf (0,[(.s (q70 x0 0 (gI (vm [(.s x0)]) 0))),(.s (q70 x0 (qw .i64 (gI (vm [(.s x0)]) 0) 1) (qF x0)))])) .fail) .fail) .fail) .fail)) .fail):=by kernel_rfl
theorem qki (x0:List UInt8):ql [.s x0]=(.br (not (seq x0 [])) (.br (inb 0 (qF x0)) (.br (ieq (sat x0 0) 45) (.br (q7v (qF x0) (qF x0)) (.br (q7v 1 (qF x0)) (.leaf (0,[(.s (q70 x0 1 (qF x0)))])) .fail) .fail) (.leaf (0,[(.s x0)]))) .fail) (.leaf (0,[(.s x0)]))):=by kernel_rfl
theorem qoa (y0:List UInt8) (y1:Int):vb [.s y0,.i y1]=(.br (ilt y1 (qF y0)) (.br (inb y1 (qF y0)) (.br (ilt (sat y0 y1) 48) (.leaf (2,[(.i 3)])) (.br (inb y1 (qF y0)) (.br (ilt 57 (sat y0 y1)) (.leaf (2,[(.i 3)])) (.leaf (0,[(.s y0),(.i (qw .i64 y1 1))]))) .fail)) .fail) (.leaf (1,[(.s y0)]))):=by kernel_rfl
theorem qsf (x0:List UInt8):jc [.s x0]=(.br (okR (ql [(.s x0)])) (.br (seq (gS (ql [(.s x0)]) 0) []) (.leaf (0,[(.i 3)])) (.br (inb 0 (qF (gS (ql [(.s x0)]) 0))) (.br (ieq (sat (gS (ql [(.s x0)]) 0) 0) 48) (.br (ilt 1 (qF (gS (ql [(.s x0)]) 0))) (.leaf (0,[(.i 3)])) (.br (ilt 1 (qF x0)) (.leaf (0,[(.i 3)])) (.br (okR (qg vb [(.s (gS (ql [(.s x0)]) 0)),(.i 0)])) (.br (jIs (qg vb [(.s (gS (ql [(.s x0)]) 0)),(.i 0)]) 0) (.br (ilt 1024 (qF (gS (qg vb [(.s (gS (ql [(.s x0)]) 0)),(.i 0)]) 0))) (.leaf (0,[(.i 11)])) (.leaf (0,[(.i 0)]))) (.leaf (0,[(.i (gI (qg vb [(.s (gS (ql [(.s x0)]) 0)),(.i 0)]) 0))]))) .fail))) (.br (okR (qg vb [(.s (gS (ql [(.s x0)]) 0)),(.i 0)])) (.br (jIs (qg vb [(.s (gS (ql [(.s x0)]) 0)),(.i 0)]) 0) (.br (ilt 1024 (qF (gS (qg vb [(.s (gS (ql [(.s x0)]) 0)),(.i 0)]) 0))) (.leaf (0,[(.i 11)])) (.leaf (0,[(.i 0)]))) (.leaf (0,[(.i (gI (qg vb [(.s (gS (ql [(.s x0)]) 0)),(.i 0)]) 0))]))) .fail)) .fail)) .fail):=by kernel_rfl
theorem qru (x0:List UInt8):qB [.s x0]=(.br (inb 0 (qF x0)) (.leaf (0,[(.b (ieq (sat x0 0) 45))])) .fail):=by kernel_rfl
theorem qpE (x0:List UInt8) (x1:Bool):qL [.s x0,.b x1]=(.br x1 (.br (not (seq x0 [48])) (.br (ile ((qF [45])+(qF x0)) 140737488355328) (.leaf (0,[(.s (q7O [45] x0))])) .fail) (.leaf (0,[(.s x0)]))) (.leaf (0,[(.s x0)]))):=by kernel_rfl
theorem qpC (x0:List UInt8):zc [.s x0]=(.br (okR (ql [(.s x0)])) (.br (okR (qB [(.s x0)])) (.br (okR (qL [(.s (gS (ql [(.s x0)]) 0)),(.b (not (gB (qB [(.s x0)]) 0)))])) (.leaf (0,[(.s (gS (qL [(.s (gS (ql [(.s x0)]) 0)),(.b (not (gB (qB [(.s x0)]) 0)))]) 0))])) .fail) .fail) .fail):=by kernel_rfl
theorem qs7 (y0:Int) (y1:List UInt8):vH [.i y0,.s y1]=(.br (ilt 9 y0) (.br (ile ((qF (qgg [[(.i (jU .u8 (qw .i64 48 (q69 y0 10))))]]))+(qF y1)) 140737488355328) (.leaf (0,[(.i (uA .i64 y0 10)),(.s (q7O (qgg [[(.i (jU .u8 (qw .i64 48 (q69 y0 10))))]]) y1))])) .fail) (.leaf (1,[(.i y0),(.s y1)]))):=by kernel_rfl
theorem qv8 (x0:Int):kt [.i x0]=(.br (ieq x0 (zi .i64 0 x0)) (.br (ine x0 0) (.leaf (0,[(.s [45,57,50,50,51,51,55,50,48,51,54,56,53,52,55,55,53,56,48,56])])) (.br (ilt x0 0) .fail (.br (okR (qg vH [(.i x0),(.s [])])) (.br (ile ((qF (qgg [[(.i (jU .u8 (qw .i64 48 (gI (qg vH [(.i x0),(.s [])]) 0))))]]))+(qF (gS (qg vH [(.i x0),(.s [])]) 1))) 140737488355328) (.leaf (0,[(.s (q7O (qgg [[(.i (jU .u8 (qw .i64 48 (gI (qg vH [(.i x0),(.s [])]) 0))))]]) (gS (qg vH [(.i x0),(.s [])]) 1)))])) .fail) .fail))) (.br (ilt x0 0) .fail (.br (okR (qg vH [(.i x0),(.s [])])) (.br (ile ((qF (qgg [[(.i (jU .u8 (qw .i64 48 (gI (qg vH [(.i x0),(.s [])]) 0))))]]))+(qF (gS (qg vH [(.i x0),(.s [])]) 1))) 140737488355328) (.leaf (0,[(.s (q7O (qgg [[(.i (jU .u8 (qw .i64 48 (gI (qg vH [(.i x0),(.s [])]) 0))))]]) (gS (qg vH [(.i x0),(.s [])]) 1)))])) .fail) .fail))):=by kernel_rfl
theorem qtk (y0:Int) (y1:List UInt8):jv [.i y0,.s y1]=(.br (ilt 9 y0) (.br (ile ((qF (qgg [[(.i (jU .u8 (qw .i64 48 (q69 y0 10))))]]))+(qF y1)) 140737488355328) (.leaf (0,[(.i (uA .i64 y0 10)),(.s (q7O (qgg [[(.i (jU .u8 (qw .i64 48 (q69 y0 10))))]]) y1))])) .fail) (.leaf (1,[(.i y0),(.s y1)]))):=by kernel_rfl
theorem qqz (x0:Int):wX [.i x0]=(.br (ieq x0 (zi .i64 0 x0)) (.br (ine x0 0) (.leaf (0,[(.s [45,57,50,50,51,51,55,50,48,51,54,56,53,52,55,55,53,56,48,56])])) (.br (ilt x0 0) (.br (okR (kt [(.i (zi .i64 0 x0))])) (.br (okR (zc [(.s (gS (kt [(.i (zi .i64 0 x0))]) 0))])) (.leaf (0,[(.s (gS (zc [(.s (gS (kt [(.i (zi .i64 0 x0))]) 0))]) 0))])) .fail) .fail) (.br (okR (qg jv [(.i x0),(.s [])])) (.br (ile ((qF (qgg [[(.i (jU .u8 (qw .i64 48 (gI (qg jv [(.i x0),(.s [])]) 0))))]]))+(qF (gS (qg jv [(.i x0),(.s [])]) 1))) 140737488355328) (.leaf (0,[(.s (q7O (qgg [[(.i (jU .u8 (qw .i64 48 (gI (qg jv [(.i x0),(.s [])]) 0))))]]) (gS (qg jv [(.i x0),(.s [])]) 1)))])) .fail) .fail))) (.br (ilt x0 0) (.br (okR (kt [(.i (zi .i64 0 x0))])) (.br (okR (zc [(.s (gS (kt [(.i (zi .i64 0 x0))]) 0))])) (.leaf (0,[(.s (gS (zc [(.s (gS (kt [(.i (zi .i64 0 x0))]) 0))]) 0))])) .fail) .fail) (.br (okR (qg jv [(.i x0),(.s [])])) (.br (ile ((qF (qgg [[(.i (jU .u8 (qw .i64 48 (gI (qg jv [(.i x0),(.s [])]) 0))))]]))+(qF (gS (qg jv [(.i x0),(.s [])]) 1))) 140737488355328) (.leaf (0,[(.s (q7O (qgg [[(.i (jU .u8 (qw .i64 48 (gI (qg jv [(.i x0),(.s [])]) 0))))]]) (gS (qg jv [(.i x0),(.s [])]) 1)))])) .fail) .fail))):=by kernel_rfl
theorem qcz (y0:List UInt8) (y1:Int) (y2:List UInt8) (y3:Int):vG [.s y0,.i y1,.s y2,.i y3]=(.br (ilt y3 (qF y2)) (.br (inb y3 (qF y2)) (.leaf (0,[(.s y0),(.i (qw .i64 (q0K .i64 10 y1) (jU .i64 (zi .u8 (sat y2 y3) 48)))),(.s y2),(.i (qw .i64 y3 1))])) .fail) (.leaf (1,[(.s y0),(.i y1)]))):=by kernel_rfl
theorem qq8 (x0:List UInt8):uK [.s x0]=(.br (okR (ql [(.s x0)])) (.br (okR (qg vG [(.s x0),(.i 0),(.s (gS (ql [(.s x0)]) 0)),(.i 0)])) (.br (okR (qB [(.s (gS (qg vG [(.s x0),(.i 0),(.s (gS (ql [(.s x0)]) 0)),(.i 0)]) 0))])) (.br (gB (qB [(.s (gS (qg vG [(.s x0),(.i 0),(.s (gS (ql [(.s x0)]) 0)),(.i 0)]) 0))]) 0) (.leaf (0,[(.i (zi .i64 0 (gI (qg vG [(.s x0),(.i 0),(.s (gS (ql [(.s x0)]) 0)),(.i 0)]) 1)))])) (.leaf (0,[(.i (gI (qg vG [(.s x0),(.i 0),(.s (gS (ql [(.s x0)]) 0)),(.i 0)]) 1))]))) .fail) .fail) .fail):=by kernel_rfl
theorem qrU (x0:List UInt8) (x1:List UInt8):z6 [.s x0,.s x1]=(.br (okR (ql [(.s x0)])) (.br (ilt 18 (qF (gS (ql [(.s x0)]) 0))) (.leaf (0,[(.i 0),(.i 0),(.b false)])) (.br (okR (ql [(.s x1)])) (.br (ilt 18 (qF (gS (ql [(.s x1)]) 0))) (.leaf (0,[(.i 0),(.i 0),(.b false)])) (.br (okR (uK [(.s x0)])) (.br (okR (uK [(.s x1)])) (.leaf (0,[(.i (gI (uK [(.s x0)]) 0)),(.i (gI (uK [(.s x1)]) 0)),(.b true)])) .fail) .fail)) .fail)) .fail):=by kernel_rfl
theorem qfZ (y0:List UInt8) (y1:Int) (y2:Int) (y3:R):zK [.s y0,.i y1,.i y2,.r y3]=(.br (ilt y2 y1) (.br (inb y2 (qH y3)) (.leaf (0,[(.s y0),(.i y1),(.i (qw .i64 y2 1)),(.r (qdh y3 y2 0 [(.i 48)]))])) .fail) (.leaf (1,[(.s y0),(.i y1),(.r y3)]))):=by kernel_rfl
theorem quu (x0:List UInt8) (x1:Int):jy [.s x0,.i x1]=(.br (ieq x1 x1) (.br (q7v x1 140737488355328) (.br (okR (qg zK [(.s x0),(.i x1),(.i 0),(.r (wh x1 [(.i 0)]))])) (.br (ilt 0 (qH (gR (qg zK [(.s x0),(.i x1),(.i 0),(.r (wh x1 [(.i 0)]))]) 2))) (.br (q7v (zi .i64 (gI (qg zK [(.s x0),(.i x1),(.i 0),(.r (wh x1 [(.i 0)]))]) 1) (qF (gS (qg zK [(.s x0),(.i x1),(.i 0),(.r (wh x1 [(.i 0)]))]) 0))) (qH (gR (qg zK [(.s x0),(.i x1),(.i 0),(.r (wh x1 [(.i 0)]))]) 2))) (.br (ile (qF (gS (qg zK [(.s x0),(.i x1),(.i 0),(.r (wh x1 [(.i 0)]))]) 0)) (qxi (qH (gR (qg zK [(.s x0),(.i x1),(.i 0),(.r (wh x1 [(.i 0)]))]) 2)) (zi .i64 (gI (qg zK [(.s x0),(.i x1),(.i 0),(.r (wh x1 [(.i 0)]))]) 1) (qF (gS (qg zK [(.s x0),(.i x1),(.i 0),(.r (wh x1 [(.i 0)]))]) 0))))) (.leaf (0,[(.s (qgg (qwg (gR (qg zK [(.s x0),(.i x1),(.i 0),(.r (wh x1 [(.i 0)]))]) 2) (zi .i64 (gI (qg zK [(.s x0),(.i x1),(.i 0),(.r (wh x1 [(.i 0)]))]) 1) (qF (gS (qg zK [(.s x0),(.i x1),(.i 0),(.r (wh x1 [(.i 0)]))]) 0))) (gS (qg zK [(.s x0),(.i x1),(.i 0),(.r (wh x1 [(.i 0)]))]) 0))))])) .fail) .fail) .fail) .fail) .fail) .fail):=by kernel_rfl
theorem qoH (x0:Int) (x1:Int) (x2:Int) (x3:Bool):uG [.i x0,.i x1,.i x2,.b x3]=(.br x3 (.br (ilt 9 (qw .i64 (qw .i64 (jU .i64 (zi .u8 x0 48)) (jU .i64 (zi .u8 x1 48))) x2)) (.leaf (0,[(.i (jU .u8 (zi .i64 (qw .i64 48 (qw .i64 (qw .i64 (jU .i64 (zi .u8 x0 48)) (jU .i64 (zi .u8 x1 48))) x2)) 10))),(.i 1)])) (.br (ilt (qw .i64 (qw .i64 (jU .i64 (zi .u8 x0 48)) (jU .i64 (zi .u8 x1 48))) x2) 0) (.leaf (0,[(.i (jU .u8 (qw .i64 (qw .i64 48 (qw .i64 (qw .i64 (jU .i64 (zi .u8 x0 48)) (jU .i64 (zi .u8 x1 48))) x2)) 10))),(.i 1)])) (.leaf (0,[(.i (jU .u8 (qw .i64 48 (qw .i64 (qw .i64 (jU .i64 (zi .u8 x0 48)) (jU .i64 (zi .u8 x1 48))) x2)))),(.i 0)])))) (.br (ilt 9 (zi .i64 (zi .i64 (jU .i64 (zi .u8 x0 48)) (jU .i64 (zi .u8 x1 48))) x2)) (.leaf (0,[(.i (jU .u8 (zi .i64 (qw .i64 48 (zi .i64 (zi .i64 (jU .i64 (zi .u8 x0 48)) (jU .i64 (zi .u8 x1 48))) x2)) 10))),(.i 1)])) (.br (ilt (zi .i64 (zi .i64 (jU .i64 (zi .u8 x0 48)) (jU .i64 (zi .u8 x1 48))) x2) 0) (.leaf (0,[(.i (jU .u8 (qw .i64 (qw .i64 48 (zi .i64 (zi .i64 (jU .i64 (zi .u8 x0 48)) (jU .i64 (zi .u8 x1 48))) x2)) 10))),(.i 1)])) (.leaf (0,[(.i (jU .u8 (qw .i64 48 (zi .i64 (zi .i64 (jU .i64 (zi .u8 x0 48)) (jU .i64 (zi .u8 x1 48))) x2)))),(.i 0)]))))):=by kernel_rfl
theorem qoK (y0:List UInt8):q2i [.s y0]=(.br (ilt 1 (qF y0)) (.br (inb 0 (qF y0)) (.br (ieq (sat y0 0) 48) (.br (q7v (qF y0) (qF y0)) (.br (q7v 1 (qF y0)) (.leaf (0,[(.s (q70 y0 1 (qF y0)))])) .fail) .fail) (.leaf (1,[(.s y0)]))) .fail) (.leaf (1,[(.s y0)]))):=by kernel_rfl
theorem quI (x0:List UInt8):zq [.s x0]=(.br (okR (qg q2i [(.s x0)])) (.leaf (0,[(.s (gS (qg q2i [(.s x0)]) 0))])) .fail):=by kernel_rfl
theorem qny (y0:List UInt8) (y1:List UInt8) (y2:Bool) (y3:Int) (y4:Int) (y5:R):yM [.s y0,.s y1,.b y2,.i y3,.i y4,.r y5]=(.br (ile 0 y4) (.br (inb y4 (qF y0)) (.br (inb y4 (qF y1)) (.br (okR (uG [(.i (sat y0 y4)),(.i (sat y1 y4)),(.i y3),(.b y2)])) (.br (inb y4 (qH y5)) (.leaf (0,[(.s y0),(.s y1),(.b y2),(.i (gI (uG [(.i (sat y0 y4)),(.i (sat y1 y4)),(.i y3),(.b y2)]) 1)),(.i (zi .i64 y4 1)),(.r (qdh y5 y4 0 [(.i (gI (uG [(.i (sat y0 y4)),(.i (sat y1 y4)),(.i y3),(.b y2)]) 0))]))])) .fail) .fail) .fail) .fail) (.leaf (1,[(.r y5)]))):=by kernel_rfl
theorem qrD (x0:List UInt8) (x1:List UInt8) (x2:Bool):zV [.s x0,.s x1,.b x2]=(.br (okR (jy [(.s x0),(.i (qw .i64 (q9d (qF x0) (qF x1)) 1))])) (.br (okR (jy [(.s x1),(.i (qw .i64 (q9d (qF x0) (qF x1)) 1))])) (.br (ieq (qw .i64 (q9d (qF x0) (qF x1)) 1) (qw .i64 (q9d (qF x0) (qF x1)) 1)) (.br (q7v (qw .i64 (q9d (qF x0) (qF x1)) 1) 140737488355328) (.br (okR (qg yM [(.s (gS (jy [(.s x0),(.i (qw .i64 (q9d (qF x0) (qF x1)) 1))]) 0)),(.s (gS (jy [(.s x1),(.i (qw .i64 (q9d (qF x0) (qF x1)) 1))]) 0)),(.b x2),(.i 0),(.i (zi .i64 (qw .i64 (q9d (qF x0) (qF x1)) 1) 1)),(.r (wh (qw .i64 (q9d (qF x0) (qF x1)) 1) [(.i 0)]))])) (.br (okR (zq [(.s (qgg (gR (qg yM [(.s (gS (jy [(.s x0),(.i (qw .i64 (q9d (qF x0) (qF x1)) 1))]) 0)),(.s (gS (jy [(.s x1),(.i (qw .i64 (q9d (qF x0) (qF x1)) 1))]) 0)),(.b x2),(.i 0),(.i (zi .i64 (qw .i64 (q9d (qF x0) (qF x1)) 1) 1)),(.r (wh (qw .i64 (q9d (qF x0) (qF x1)) 1) [(.i 0)]))]) 0)))])) (.leaf (0,[(.s (gS (zq [(.s (qgg (gR (qg yM [(.s (gS (jy [(.s x0),(.i (qw .i64 (q9d (qF x0) (qF x1)) 1))]) 0)),(.s (gS (jy [(.s x1),(.i (qw .i64 (q9d (qF x0) (qF x1)) 1))]) 0)),(.b x2),(.i 0),(.i (zi .i64 (qw .i64 (q9d (qF x0) (qF x1)) 1) 1)),(.r (wh (qw .i64 (q9d (qF x0) (qF x1)) 1) [(.i 0)]))]) 0)))]) 0))])) .fail) .fail) .fail) .fail) .fail) .fail):=by kernel_rfl
theorem qtu (x0:List UInt8) (x1:List UInt8):yP [.s x0,.s x1]=(.br (ilt (qF x0) (qF x1)) (.leaf (0,[(.b true)])) (.br (ieq (qF x0) (qF x1)) (.leaf (0,[(.b (slt x0 x1))])) (.leaf (0,[(.b false)])))):=by kernel_rfl
theorem qtF (x0:List UInt8) (x1:List UInt8):uO [.s x0,.s x1]=(.br (okR (z6 [(.s x0),(.s x1)])) (.br (gB (z6 [(.s x0),(.s x1)]) 2) (.br (okR (wX [(.i (qw .i64 (gI (z6 [(.s x0),(.s x1)]) 0) (gI (z6 [(.s x0),(.s x1)]) 1)))])) (.leaf (0,[(.s (gS (wX [(.i (qw .i64 (gI (z6 [(.s x0),(.s x1)]) 0) (gI (z6 [(.s x0),(.s x1)]) 1)))]) 0))])) .fail) (.br (okR (ql [(.s x0)])) (.br (okR (ql [(.s x1)])) (.br (okR (qB [(.s x0)])) (.br (okR (qB [(.s x1)])) (.br (beq (gB (qB [(.s x0)]) 0) (gB (qB [(.s x1)]) 0)) (.br (okR (zV [(.s (gS (ql [(.s x0)]) 0)),(.s (gS (ql [(.s x1)]) 0)),(.b true)])) (.br (okR (qB [(.s x0)])) (.br (okR (qL [(.s (gS (zV [(.s (gS (ql [(.s x0)]) 0)),(.s (gS (ql [(.s x1)]) 0)),(.b true)]) 0)),(.b (gB (qB [(.s x0)]) 0))])) (.leaf (0,[(.s (gS (qL [(.s (gS (zV [(.s (gS (ql [(.s x0)]) 0)),(.s (gS (ql [(.s x1)]) 0)),(.b true)]) 0)),(.b (gB (qB [(.s x0)]) 0))]) 0))])) .fail) .fail) .fail) (.br (okR (yP [(.s (gS (ql [(.s x0)]) 0)),(.s (gS (ql [(.s x1)]) 0))])) (.br (gB (yP [(.s (gS (ql [(.s x0)]) 0)),(.s (gS (ql [(.s x1)]) 0))]) 0) (.br (okR (zV [(.s (gS (ql [(.s x1)]) 0)),(.s (gS (ql [(.s x0)]) 0)),(.b false)])) (.br (okR (qB [(.s x1)])) (.br (okR (qL [(.s (gS (zV [(.s (gS (ql [(.s x1)]) 0)),(.s (gS (ql [(.s x0)]) 0)),(.b false)]) 0)),(.b (gB (qB [(.s x1)]) 0))])) (.leaf (0,[(.s (gS (qL [(.s (gS (zV [(.s (gS (ql [(.s x1)]) 0)),(.s (gS (ql [(.s x0)]) 0)),(.b false)]) 0)),(.b (gB (qB [(.s x1)]) 0))]) 0))])) .fail) .fail) .fail) (.br (okR (zV [(.s (gS (ql [(.s x0)]) 0)),(.s (gS (ql [(.s x1)]) 0)),(.b false)])) (.br (okR (qB [(.s x0)])) (.br (okR (qL [(.s (gS (zV [(.s (gS (ql [(.s x0)]) 0)),(.s (gS (ql [(.s x1)]) 0)),(.b false)]) 0)),(.b (gB (qB [(.s x0)]) 0))])) (.leaf (0,[(.s (gS (qL [(.s (gS (zV [(.s (gS (ql [(.s x0)]) 0)),(.s (gS (ql [(.s x1)]) 0)),(.b false)]) 0)),(.b (gB (qB [(.s x0)]) 0))]) 0))])) .fail) .fail) .fail)) .fail)) .fail) .fail) .fail) .fail)) .fail):=by kernel_rfl
theorem qrE (x0:List UInt8) (x1:List UInt8):wx [.s x0,.s x1]=(.br (okR (zc [(.s x1)])) (.br (okR (uO [(.s x0),(.s (gS (zc [(.s x1)]) 0))])) (.leaf (0,[(.s (gS (uO [(.s x0),(.s (gS (zc [(.s x1)]) 0))]) 0))])) .fail) .fail):=by kernel_rfl
theorem qrx (x0:List UInt8) (x1:List UInt8):je [.s x0,.s x1]=(.br (okR (wx [(.s x0),(.s x1)])) (.br (seq (gS (wx [(.s x0),(.s x1)]) 0) [48]) (.leaf (0,[(.i 0)])) (.br (okR (qB [(.s (gS (wx [(.s x0),(.s x1)]) 0))])) (.br (gB (qB [(.s (gS (wx [(.s x0),(.s x1)]) 0))]) 0) (.leaf (0,[(.i (-1))])) (.leaf (0,[(.i 1)]))) .fail)) .fail):=by kernel_rfl
theorem qko (y0:List UInt8) (y1:List UInt8) (y2:Int) (y3:Int) (y4:R):vg [.s y0,.s y1,.i y2,.i y3,.r y4]=(.br (ilt y3 (qF y1)) (.br (inb (qw .i64 (qw .i64 y2 y3) 1) (qH y4)) (.br (inb y2 (qF y0)) (.br (inb y3 (qF y1)) (.br (inb (qw .i64 (qw .i64 y2 y3) 1) (qH y4)) (.leaf (0,[(.s y0),(.s y1),(.i y2),(.i (qw .i64 y3 1)),(.r (qdh y4 (qw .i64 (qw .i64 y2 y3) 1) 0 [(.i (qw .i64 (cI y4 (qw .i64 (qw .i64 y2 y3) 1) 0) (q0K .i64 (jU .i64 (zi .u8 (sat y0 y2) 48)) (jU .i64 (zi .u8 (sat y1 y3) 48)))))]))])) .fail) .fail) .fail) .fail) (.leaf (1,[(.s y0),(.s y1),(.i y2),(.r y4)]))):=by kernel_rfl
theorem qkG (y0:List UInt8) (y1:List UInt8) (y2:Int) (y3:R):zm [.s y0,.s y1,.i y2,.r y3]=(.br (ilt y2 (qF y0)) (.br (okR (qg vg [(.s y0),(.s y1),(.i y2),(.i 0),(.r y3)])) (.leaf (0,[(.s (gS (qg vg [(.s y0),(.s y1),(.i y2),(.i 0),(.r y3)]) 0)),(.s (gS (qg vg [(.s y0),(.s y1),(.i y2),(.i 0),(.r y3)]) 1)),(.i (qw .i64 (gI (qg vg [(.s y0),(.s y1),(.i y2),(.i 0),(.r y3)]) 2) 1)),(.r (gR (qg vg [(.s y0),(.s y1),(.i y2),(.i 0),(.r y3)]) 3))])) .fail) (.leaf (1,[(.r y3)]))):=by kernel_rfl
theorem qiT (y0:Int) (y1:Int) (y2:R) (y3:R):vM [.i y0,.i y1,.r y2,.r y3]=(.br (ile 0 y1) (.br (inb y1 (qH y2)) (.br (inb y1 (qH y3)) (.leaf (0,[(.i (uA .i64 (qw .i64 y0 (cI y2 y1 0)) 10)),(.i (zi .i64 y1 1)),(.r y2),(.r (qdh y3 y1 0 [(.i (jU .u8 (qw .i64 48 (q69 (qw .i64 y0 (cI y2 y1 0)) 10))))]))])) .fail) .fail) (.leaf (1,[(.r y3)]))):=by kernel_rfl
theorem qo8 (x0:List UInt8) (x1:List UInt8):j8 [.s x0,.s x1]=(.br (ieq (qw .i64 (qF x0) (qF x1)) (qw .i64 (qF x0) (qF x1))) (.br (q7v (qw .i64 (qF x0) (qF x1)) 17592186044416) (.br (okR (qg zm [(.s x0),(.s x1),(.i 0),(.r (wh (qw .i64 (qF x0) (qF x1)) [(.i 0)]))])) (.br (ieq (qH (gR (qg zm [(.s x0),(.s x1),(.i 0),(.r (wh (qw .i64 (qF x0) (qF x1)) [(.i 0)]))]) 0)) (qH (gR (qg zm [(.s x0),(.s x1),(.i 0),(.r (wh (qw .i64 (qF x0) (qF x1)) [(.i 0)]))]) 0))) (.br (q7v (qH (gR (qg zm [(.s x0),(.s x1),(.i 0),(.r (wh (qw .i64 (qF x0) (qF x1)) [(.i 0)]))]) 0)) 140737488355328) (.br (okR (qg vM [(.i 0),(.i (zi .i64 (qH (gR (qg zm [(.s x0),(.s x1),(.i 0),(.r (wh (qw .i64 (qF x0) (qF x1)) [(.i 0)]))]) 0)) 1)),(.r (gR (qg zm [(.s x0),(.s x1),(.i 0),(.r (wh (qw .i64 (qF x0) (qF x1)) [(.i 0)]))]) 0)),(.r (wh (qH (gR (qg zm [(.s x0),(.s x1),(.i 0),(.r (wh (qw .i64 (qF x0) (qF x1)) [(.i 0)]))]) 0)) [(.i 0)]))])) (.br (okR (zq [(.s (qgg (gR (qg vM [(.i 0),(.i (zi .i64 (qH (gR (qg zm [(.s x0),(.s x1),(.i 0),(.r (wh (qw .i64 (qF x0) (qF x1)) [(.i 0)]))]) 0)) 1)),(.r (gR (qg zm [(.s x0),(.s x1),(.i 0),(.r (wh (qw .i64 (qF x0) (qF x1)) [(.i 0)]))]) 0)),(.r (wh (qH (gR (qg zm [(.s x0),(.s x1),(.i 0),(.r (wh (qw .i64 (qF x0) (qF x1)) [(.i 0)]))]) 0)) [(.i 0)]))]) 0)))])) (.leaf (0,[(.s (gS (zq [(.s (qgg (gR (qg vM [(.i 0),(.i (zi .i64 (qH (gR (qg zm [(.s x0),(.s x1),(.i 0),(.r (wh (qw .i64 (qF x0) (qF x1)) [(.i 0)]))]) 0)) 1)),(.r (gR (qg zm [(.s x0),(.s x1),(.i 0),(.r (wh (qw .i64 (qF x0) (qF x1)) [(.i 0)]))]) 0)),(.r (wh (qH (gR (qg zm [(.s x0),(.s x1),(.i 0),(.r (wh (qw .i64 (qF x0) (qF x1)) [(.i 0)]))]) 0)) [(.i 0)]))]) 0)))]) 0))])) .fail) .fail) .fail) .fail) .fail) .fail) .fail):=by kernel_rfl
theorem qrt (x0:List UInt8) (x1:List UInt8):zU [.s x0,.s x1]=(.br (okR (z6 [(.s x0),(.s x1)])) (.br (gB (z6 [(.s x0),(.s x1)]) 2) (.br (ile (qw .i64 (qF x0) (qF x1)) 18) (.br (okR (wX [(.i (q0K .i64 (gI (z6 [(.s x0),(.s x1)]) 0) (gI (z6 [(.s x0),(.s x1)]) 1)))])) (.leaf (0,[(.s (gS (wX [(.i (q0K .i64 (gI (z6 [(.s x0),(.s x1)]) 0) (gI (z6 [(.s x0),(.s x1)]) 1)))]) 0))])) .fail) (.br (okR (ql [(.s x0)])) (.br (okR (ql [(.s x1)])) (.br (okR (j8 [(.s (gS (ql [(.s x0)]) 0)),(.s (gS (ql [(.s x1)]) 0))])) (.br (okR (qB [(.s x0)])) (.br (okR (qB [(.s x1)])) (.br (okR (qL [(.s (gS (j8 [(.s (gS (ql [(.s x0)]) 0)),(.s (gS (ql [(.s x1)]) 0))]) 0)),(.b (not (beq (gB (qB [(.s x0)]) 0) (gB (qB [(.s x1)]) 0))))])) (.leaf (0,[(.s (gS (qL [(.s (gS (j8 [(.s (gS (ql [(.s x0)]) 0)),(.s (gS (ql [(.s x1)]) 0))]) 0)),(.b (not (beq (gB (qB [(.s x0)]) 0) (gB (qB [(.s x1)]) 0))))]) 0))])) .fail) .fail) .fail) .fail) .fail) .fail)) (.br (okR (ql [(.s x0)])) (.br (okR (ql [(.s x1)])) (.br (okR (j8 [(.s (gS (ql [(.s x0)]) 0)),(.s (gS (ql [(.s x1)]) 0))])) (.br (okR (qB [(.s x0)])) (.br (okR (qB [(.s x1)])) (.br (okR (qL [(.s (gS (j8 [(.s (gS (ql [(.s x0)]) 0)),(.s (gS (ql [(.s x1)]) 0))]) 0)),(.b (not (beq (gB (qB [(.s x0)]) 0) (gB (qB [(.s x1)]) 0))))])) (.leaf (0,[(.s (gS (qL [(.s (gS (j8 [(.s (gS (ql [(.s x0)]) 0)),(.s (gS (ql [(.s x1)]) 0))]) 0)),(.b (not (beq (gB (qB [(.s x0)]) 0) (gB (qB [(.s x1)]) 0))))]) 0))])) .fail) .fail) .fail) .fail) .fail) .fail)) .fail):=by kernel_rfl
theorem qio (y0:List UInt8) (y1:List UInt8) (y2:List UInt8) (y3:List UInt8) (y4:Int) (y5:Int):zB [.s y0,.s y1,.s y2,.s y3,.i y4,.i y5]=(.br (okR (yP [(.s y3),(.s y1)])) (.br (not (gB (yP [(.s y3),(.s y1)]) 0)) (.br (okR (zV [(.s y3),(.s y1),(.b false)])) (.leaf (0,[(.s y0),(.s y1),(.s y2),(.s (gS (zV [(.s y3),(.s y1),(.b false)]) 0)),(.i y4),(.i (qw .u8 y5 1))])) .fail) (.leaf (1,[(.s y0),(.s y1),(.s y2),(.s y3),(.i y4),(.i y5)]))) .fail):=by kernel_rfl
theorem qkL (y0:List UInt8) (y1:List UInt8) (y2:List UInt8) (y3:List UInt8) (y4:Int):jp [.s y0,.s y1,.s y2,.s y3,.i y4]=(.br (ilt y4 (qF y0)) (.br (q7v (qw .i64 y4 1) (qF y0)) (.br (q7v y4 (qw .i64 y4 1)) (.br (ile ((qF y3)+(qF (q70 y0 y4 (qw .i64 y4 1)))) 140737488355328) (.br (okR (zq [(.s (q7O y3 (q70 y0 y4 (qw .i64 y4 1))))])) (.br (okR (qg zB [(.s y0),(.s y1),(.s y2),(.s (gS (zq [(.s (q7O y3 (q70 y0 y4 (qw .i64 y4 1))))]) 0)),(.i y4),(.i 48)])) (.br (ile ((qF (gS (qg zB [(.s y0),(.s y1),(.s y2),(.s (gS (zq [(.s (q7O y3 (q70 y0 y4 (qw .i64 y4 1))))]) 0)),(.i y4),(.i 48)]) 2))+(qF (qgg [[(.i (gI (qg zB [(.s y0),(.s y1),(.s y2),(.s (gS (zq [(.s (q7O y3 (q70 y0 y4 (qw .i64 y4 1))))]) 0)),(.i y4),(.i 48)]) 5))]]))) 140737488355328) (.leaf (0,[(.s (gS (qg zB [(.s y0),(.s y1),(.s y2),(.s (gS (zq [(.s (q7O y3 (q70 y0 y4 (qw .i64 y4 1))))]) 0)),(.i y4),(.i 48)]) 0)),(.s (gS (qg zB [(.s y0),(.s y1),(.s y2),(.s (gS (zq [(.s (q7O y3 (q70 y0 y4 (qw .i64 y4 1))))]) 0)),(.i y4),(.i 48)]) 1)),(.s (q7O (gS (qg zB [(.s y0),(.s y1),(.s y2),(.s (gS (zq [(.s (q7O y3 (q70 y0 y4 (qw .i64 y4 1))))]) 0)),(.i y4),(.i 48)]) 2) (qgg [[(.i (gI (qg zB [(.s y0),(.s y1),(.s y2),(.s (gS (zq [(.s (q7O y3 (q70 y0 y4 (qw .i64 y4 1))))]) 0)),(.i y4),(.i 48)]) 5))]]))),(.s (gS (qg zB [(.s y0),(.s y1),(.s y2),(.s (gS (zq [(.s (q7O y3 (q70 y0 y4 (qw .i64 y4 1))))]) 0)),(.i y4),(.i 48)]) 3)),(.i (qw .i64 (gI (qg zB [(.s y0),(.s y1),(.s y2),(.s (gS (zq [(.s (q7O y3 (q70 y0 y4 (qw .i64 y4 1))))]) 0)),(.i y4),(.i 48)]) 4) 1))])) .fail) .fail) .fail) .fail) .fail) .fail) (.leaf (1,[(.s y2),(.s y3)]))):=by kernel_rfl
theorem qod (x0:List UInt8) (x1:List UInt8):q2V [.s x0,.s x1]=(.br (okR (qg jp [(.s x0),(.s x1),(.s []),(.s [48]),(.i 0)])) (.br (okR (zq [(.s (gS (qg jp [(.s x0),(.s x1),(.s []),(.s [48]),(.i 0)]) 0))])) (.leaf (0,[(.s (gS (zq [(.s (gS (qg jp [(.s x0),(.s x1),(.s []),(.s [48]),(.i 0)]) 0))]) 0)),(.s (gS (qg jp [(.s x0),(.s x1),(.s []),(.s [48]),(.i 0)]) 1))])) .fail) .fail):=by kernel_rfl
theorem qpe (x0:List UInt8) (x1:List UInt8):z8 [.s x0,.s x1]=(let r0:TR:=(z6 [(.s x0),(.s x1)])
 .br (okR r0) (.br (gB r0 2) (.br (ine (gI r0 1) 0) (.br (ine (q69 (gI r0 0) (gI r0 1)) 0) (.br (not (beq (ilt (q69 (gI r0 0) (gI r0 1)) 0) (ilt (gI r0 1) 0))) (.br (ine (gI r0 1) 0) (let r1:TR:=(wX [(.i (uA .i64 (zi .i64 (gI r0 0) (qw .i64 (q69 (gI r0 0) (gI r0 1)) (gI r0 1))) (gI r0 1)))])
 .br (okR r1) (let r2:TR:=(wX [(.i (qw .i64 (q69 (gI r0 0) (gI r0 1)) (gI r0 1)))])
 .br (okR r2) (.leaf (0,[(.s (gS r1 0)),(.s (gS r2 0))])) .fail) .fail) .fail) (.br (ine (gI r0 1) 0) (let r1:TR:=(wX [(.i (uA .i64 (zi .i64 (gI r0 0) (q69 (gI r0 0) (gI r0 1))) (gI r0 1)))])
 .br (okR r1) (let r2:TR:=(wX [(.i (q69 (gI r0 0) (gI r0 1)))])
 .br (okR r2) (.leaf (0,[(.s (gS r1 0)),(.s (gS r2 0))])) .fail) .fail) .fail)) (.br (ine (gI r0 1) 0) (let r1:TR:=(wX [(.i (uA .i64 (zi .i64 (gI r0 0) (q69 (gI r0 0) (gI r0 1))) (gI r0 1)))])
 .br (okR r1) (let r2:TR:=(wX [(.i (q69 (gI r0 0) (gI r0 1)))])
 .br (okR r2) (.leaf (0,[(.s (gS r1 0)),(.s (gS r2 0))])) .fail) .fail) .fail)) .fail) (let r1:TR:=(ql [(.s x0)])
 .br (okR r1) (let r2:TR:=(ql [(.s x1)])
 .br (okR r2) (let r3:TR:=(q2V [(.s (gS r1 0)),(.s (gS r2 0))])
 .br (okR r3) (let r4:TR:=(qB [(.s x0)])
 .br (okR r4) (let r5:TR:=(qB [(.s x1)])
 .br (okR r5) (let r6:TR:=(qL [(.s (gS r3 0)),(.b (not (beq (gB r4 0) (gB r5 0))))])
 .br (okR r6) (.br (not (seq (gS r3 1) [48])) (.br (okR r4) (.br (okR r5) (.br (not (beq (gB r4 0) (gB r5 0))) (let r7:TR:=(wx [(.s (gS r6 0)),(.s [49])])
 .br (okR r7) (let r8:TR:=(zU [(.s (gS r7 0)),(.s x1)])
 .br (okR r8) (let r9:TR:=(wx [(.s x0),(.s (gS r8 0))])
 .br (okR r9) (.leaf (0,[(.s (gS r7 0)),(.s (gS r9 0))])) .fail) .fail) .fail) (let r7:TR:=(zU [(.s (gS r6 0)),(.s x1)])
 .br (okR r7) (let r8:TR:=(wx [(.s x0),(.s (gS r7 0))])
 .br (okR r8) (.leaf (0,[(.s (gS r6 0)),(.s (gS r8 0))])) .fail) .fail)) .fail) .fail) (let r7:TR:=(zU [(.s (gS r6 0)),(.s x1)])
 .br (okR r7) (let r8:TR:=(wx [(.s x0),(.s (gS r7 0))])
 .br (okR r8) (.leaf (0,[(.s (gS r6 0)),(.s (gS r8 0))])) .fail) .fail)) .fail) .fail) .fail) .fail) .fail) .fail)) .fail):=by kernel_rfl
theorem qlq (y0:Int) (y1:Int):jq [.i y0,.i y1]=(.br (ilt 0 y1) (.br (ine y1 0) (.leaf (0,[(.i y1),(.i (q69 y0 y1))])) .fail) (.leaf (1,[(.i y0)]))):=by kernel_rfl
theorem qlQ (y0:List UInt8) (y1:List UInt8):jY [.s y0,.s y1]=(.br (not (seq y1 [48])) (.br (okR (z6 [(.s y0),(.s y1)])) (.br (gB (z6 [(.s y0),(.s y1)]) 2) (.br (okR (qg jq [(.i (gI (z6 [(.s y0),(.s y1)]) 0)),(.i (gI (z6 [(.s y0),(.s y1)]) 1))])) (.br (okR (wX [(.i (gI (qg jq [(.i (gI (z6 [(.s y0),(.s y1)]) 0)),(.i (gI (z6 [(.s y0),(.s y1)]) 1))]) 0))])) (.leaf (2,[(.s (gS (wX [(.i (gI (qg jq [(.i (gI (z6 [(.s y0),(.s y1)]) 0)),(.i (gI (z6 [(.s y0),(.s y1)]) 1))]) 0))]) 0))])) .fail) .fail) (.br (okR (z8 [(.s y0),(.s y1)])) (.leaf (0,[(.s y1),(.s (gS (z8 [(.s y0),(.s y1)]) 1))])) .fail)) .fail) (.leaf (1,[(.s y0)]))):=by kernel_rfl
theorem qpM (x0:List UInt8) (x1:List UInt8):z7 [.s x0,.s x1]=(.br (okR (ql [(.s x0)])) (.br (okR (qL [(.s (gS (ql [(.s x0)]) 0)),(.b false)])) (.br (okR (ql [(.s x1)])) (.br (okR (qL [(.s (gS (ql [(.s x1)]) 0)),(.b false)])) (.br (okR (qg jY [(.s (gS (qL [(.s (gS (ql [(.s x0)]) 0)),(.b false)]) 0)),(.s (gS (qL [(.s (gS (ql [(.s x1)]) 0)),(.b false)]) 0))])) (.br (jIs (qg jY [(.s (gS (qL [(.s (gS (ql [(.s x0)]) 0)),(.b false)]) 0)),(.s (gS (qL [(.s (gS (ql [(.s x1)]) 0)),(.b false)]) 0))]) 0) (.leaf (0,[(.s (gS (qg jY [(.s (gS (qL [(.s (gS (ql [(.s x0)]) 0)),(.b false)]) 0)),(.s (gS (qL [(.s (gS (ql [(.s x1)]) 0)),(.b false)]) 0))]) 0))])) (.leaf (0,[(.s (gS (qg jY [(.s (gS (qL [(.s (gS (ql [(.s x0)]) 0)),(.b false)]) 0)),(.s (gS (qL [(.s (gS (ql [(.s x1)]) 0)),(.b false)]) 0))]) 0))]))) .fail) .fail) .fail) .fail) .fail):=by kernel_rfl
theorem qsc (x0:List UInt8):v8 [.s x0]=(.br (okR (qA [(.s x0)])) (.br (okR (jc [(.s (gS (qA [(.s x0)]) 0))])) (.br (ieq (gI (jc [(.s (gS (qA [(.s x0)]) 0))]) 0) 3) (.leaf (0,[(.i 3)])) (.br (okR (jc [(.s (gS (qA [(.s x0)]) 1))])) (.br (ieq (gI (jc [(.s (gS (qA [(.s x0)]) 1))]) 0) 3) (.leaf (0,[(.i 3)])) (.br (okR (jc [(.s (gS (qA [(.s x0)]) 0))])) (.br (ine (gI (jc [(.s (gS (qA [(.s x0)]) 0))]) 0) 0) (.leaf (0,[(.i 11)])) (.br (okR (jc [(.s (gS (qA [(.s x0)]) 1))])) (.br (ine (gI (jc [(.s (gS (qA [(.s x0)]) 1))]) 0) 0) (.leaf (0,[(.i 11)])) (.br (okR (vm [(.s x0)])) (.br (ile 0 (gI (vm [(.s x0)]) 0)) (.br (okR (je [(.s (gS (qA [(.s x0)]) 1)),(.s [49])])) (.br (ile (gI (je [(.s (gS (qA [(.s x0)]) 1)),(.s [49])]) 0) 0) (.leaf (0,[(.i 3)])) (.br (okR (z7 [(.s (gS (qA [(.s x0)]) 0)),(.s (gS (qA [(.s x0)]) 1))])) (.br (not (seq (gS (z7 [(.s (gS (qA [(.s x0)]) 0)),(.s (gS (qA [(.s x0)]) 1))]) 0) [49])) (.leaf (0,[(.i 3)])) (.leaf (0,[(.i 0)]))) .fail)) .fail) (.leaf (0,[(.i 0)]))) .fail)) .fail)) .fail)) .fail)) .fail) .fail):=by kernel_rfl
theorem qpr (x0:List UInt8):zx [.s x0]=(.br (okR (qA [(.s x0)])) (.br (okR (je [(.s (gS (qA [(.s x0)]) 0)),(.s [48])])) (.leaf (0,[(.i (gI (je [(.s (gS (qA [(.s x0)]) 0)),(.s [48])]) 0))])) .fail) .fail):=by kernel_rfl
theorem q4y (y0:Int) (y1:Int) (y2:List UInt8) (y3:List UInt8) (y4:List UInt8) (y5:R):jJ [.i y0,.i y1,.s y2,.s y3,.s y4,.r y5]=(.br (ilt y1 y0) (.br (inb y1 (qH y5)) (.br (okR (v8 [(.s (cS y5 y1 0))])) (.br (ine (gI (v8 [(.s (cS y5 y1 0))]) 0) 0) (.leaf (2,[(.i (gI (v8 [(.s (cS y5 y1 0))]) 0))])) (.leaf (0,[(.i y0),(.i (qw .i64 y1 1)),(.s y2),(.s y3),(.s y4),(.r y5)]))) .fail) .fail) (.leaf (1,[(.s y2),(.s y3),(.s y4)]))):=by kernel_rfl
theorem qrC (x0:List UInt8) (x1:List UInt8) (x2:List UInt8):zz [.s x0,.s x1,.s x2]=(.br (okR (qg jJ [(.i (qH [[(.s x0)],[(.s x1)],[(.s x2)]])),(.i 0),(.s x0),(.s x1),(.s x2),(.r [[(.s x0)],[(.s x1)],[(.s x2)]])])) (.br (jIs (qg jJ [(.i (qH [[(.s x0)],[(.s x1)],[(.s x2)]])),(.i 0),(.s x0),(.s x1),(.s x2),(.r [[(.s x0)],[(.s x1)],[(.s x2)]])]) 0) (.br (okR (zx [(.s (gS (qg jJ [(.i (qH [[(.s x0)],[(.s x1)],[(.s x2)]])),(.i 0),(.s x0),(.s x1),(.s x2),(.r [[(.s x0)],[(.s x1)],[(.s x2)]])]) 2))])) (.br (ilt (gI (zx [(.s (gS (qg jJ [(.i (qH [[(.s x0)],[(.s x1)],[(.s x2)]])),(.i 0),(.s x0),(.s x1),(.s x2),(.r [[(.s x0)],[(.s x1)],[(.s x2)]])]) 2))]) 0) 0) (.leaf (0,[(.i 2)])) (.leaf (0,[(.i 0)]))) .fail) (.leaf (0,[(.i (gI (qg jJ [(.i (qH [[(.s x0)],[(.s x1)],[(.s x2)]])),(.i 0),(.s x0),(.s x1),(.s x2),(.r [[(.s x0)],[(.s x1)],[(.s x2)]])]) 0))]))) .fail):=by kernel_rfl
theorem qo4 (x0:List UInt8) (x1:List UInt8):qp [.s x0,.s x1]=(.br (okR (qA [(.s x0)])) (.br (okR (qA [(.s x1)])) (.br (okR (zU [(.s (gS (qA [(.s x0)]) 0)),(.s (gS (qA [(.s x1)]) 1))])) (.br (okR (zU [(.s (gS (qA [(.s x1)]) 0)),(.s (gS (qA [(.s x0)]) 1))])) (.br (okR (zU [(.s (gS (qA [(.s x0)]) 1)),(.s (gS (qA [(.s x1)]) 1))])) (.br (okR (zU [(.s (gS (qA [(.s x0)]) 0)),(.s (gS (qA [(.s x1)]) 0))])) (.br (okR (zU [(.s (gS (qA [(.s x0)]) 1)),(.s (gS (qA [(.s x1)]) 0))])) (.leaf (0,[(.r [[(.s (gS (zU [(.s (gS (qA [(.s x0)]) 0)),(.s (gS (qA [(.s x1)]) 1))]) 0))],[(.s (gS (zU [(.s (gS (qA [(.s x1)]) 0)),(.s (gS (qA [(.s x0)]) 1))]) 0))],[(.s (gS (zU [(.s (gS (qA [(.s x0)]) 1)),(.s (gS (qA [(.s x1)]) 1))]) 0))],[(.s (gS (zU [(.s (gS (qA [(.s x0)]) 0)),(.s (gS (qA [(.s x1)]) 0))]) 0))],[(.s (gS (zU [(.s (gS (qA [(.s x0)]) 1)),(.s (gS (qA [(.s x1)]) 0))]) 0))]])])) .fail) .fail) .fail) .fail) .fail) .fail) .fail):=by kernel_rfl
theorem qri (x0:List UInt8) (x1:List UInt8):jf [.s x0,.s x1]=(.br (okR (qp [(.s x0),(.s x1)])) (.br (inb 0 (qH (gR (qp [(.s x0),(.s x1)]) 0))) (.br (inb 1 (qH (gR (qp [(.s x0),(.s x1)]) 0))) (.br (okR (je [(.s (cS (gR (qp [(.s x0),(.s x1)]) 0) 0 0)),(.s (cS (gR (qp [(.s x0),(.s x1)]) 0) 1 0))])) (.leaf (0,[(.i (gI (je [(.s (cS (gR (qp [(.s x0),(.s x1)]) 0) 0 0)),(.s (cS (gR (qp [(.s x0),(.s x1)]) 0) 1 0))]) 0))])) .fail) .fail) .fail) .fail):=by kernel_rfl
theorem qoF (x0:List UInt8) (x1:List UInt8):wA [.s x0,.s x1]=(.br (okR (z7 [(.s x0),(.s x1)])) (.br (okR (qB [(.s x1)])) (.br (gB (qB [(.s x1)]) 0) (.br (okR (zc [(.s (gS (z7 [(.s x0),(.s x1)]) 0))])) (.br (okR (z8 [(.s x0),(.s (gS (zc [(.s (gS (z7 [(.s x0),(.s x1)]) 0))]) 0))])) (.br (okR (z8 [(.s x1),(.s (gS (zc [(.s (gS (z7 [(.s x0),(.s x1)]) 0))]) 0))])) (.br (seq (gS (z8 [(.s x1),(.s (gS (zc [(.s (gS (z7 [(.s x0),(.s x1)]) 0))]) 0))]) 0) [49]) (.leaf (0,[(.s (gS (z8 [(.s x0),(.s (gS (zc [(.s (gS (z7 [(.s x0),(.s x1)]) 0))]) 0))]) 0))])) (.br (ile ((qF (gS (z8 [(.s x0),(.s (gS (zc [(.s (gS (z7 [(.s x0),(.s x1)]) 0))]) 0))]) 0))+(qF [47])) 140737488355328) (.br (ile ((qF (q7O (gS (z8 [(.s x0),(.s (gS (zc [(.s (gS (z7 [(.s x0),(.s x1)]) 0))]) 0))]) 0) [47]))+(qF (gS (z8 [(.s x1),(.s (gS (zc [(.s (gS (z7 [(.s x0),(.s x1)]) 0))]) 0))]) 0))) 140737488355328) (.leaf (0,[(.s (q7O (q7O (gS (z8 [(.s x0),(.s (gS (zc [(.s (gS (z7 [(.s x0),(.s x1)]) 0))]) 0))]) 0) [47]) (gS (z8 [(.s x1),(.s (gS (zc [(.s (gS (z7 [(.s x0),(.s x1)]) 0))]) 0))]) 0)))])) .fail) .fail)) .fail) .fail) .fail) (.br (okR (z8 [(.s x0),(.s (gS (z7 [(.s x0),(.s x1)]) 0))])) (.br (okR (z8 [(.s x1),(.s (gS (z7 [(.s x0),(.s x1)]) 0))])) (.br (seq (gS (z8 [(.s x1),(.s (gS (z7 [(.s x0),(.s x1)]) 0))]) 0) [49]) (.leaf (0,[(.s (gS (z8 [(.s x0),(.s (gS (z7 [(.s x0),(.s x1)]) 0))]) 0))])) (.br (ile ((qF (gS (z8 [(.s x0),(.s (gS (z7 [(.s x0),(.s x1)]) 0))]) 0))+(qF [47])) 140737488355328) (.br (ile ((qF (q7O (gS (z8 [(.s x0),(.s (gS (z7 [(.s x0),(.s x1)]) 0))]) 0) [47]))+(qF (gS (z8 [(.s x1),(.s (gS (z7 [(.s x0),(.s x1)]) 0))]) 0))) 140737488355328) (.leaf (0,[(.s (q7O (q7O (gS (z8 [(.s x0),(.s (gS (z7 [(.s x0),(.s x1)]) 0))]) 0) [47]) (gS (z8 [(.s x1),(.s (gS (z7 [(.s x0),(.s x1)]) 0))]) 0)))])) .fail) .fail)) .fail) .fail)) .fail) .fail):=by kernel_rfl
theorem qtr (x0:List UInt8) (x1:List UInt8):zO [.s x0,.s x1]=(.br (okR (qp [(.s x0),(.s x1)])) (.br (inb 0 (qH (gR (qp [(.s x0),(.s x1)]) 0))) (.br (inb 1 (qH (gR (qp [(.s x0),(.s x1)]) 0))) (.br (okR (uO [(.s (cS (gR (qp [(.s x0),(.s x1)]) 0) 0 0)),(.s (cS (gR (qp [(.s x0),(.s x1)]) 0) 1 0))])) (.br (inb 2 (qH (gR (qp [(.s x0),(.s x1)]) 0))) (.br (okR (wA [(.s (gS (uO [(.s (cS (gR (qp [(.s x0),(.s x1)]) 0) 0 0)),(.s (cS (gR (qp [(.s x0),(.s x1)]) 0) 1 0))]) 0)),(.s (cS (gR (qp [(.s x0),(.s x1)]) 0) 2 0))])) (.leaf (0,[(.s (gS (wA [(.s (gS (uO [(.s (cS (gR (qp [(.s x0),(.s x1)]) 0) 0 0)),(.s (cS (gR (qp [(.s x0),(.s x1)]) 0) 1 0))]) 0)),(.s (cS (gR (qp [(.s x0),(.s x1)]) 0) 2 0))]) 0))])) .fail) .fail) .fail) .fail) .fail) .fail):=by kernel_rfl
theorem qrH (x0:List UInt8) (x1:List UInt8):qI [.s x0,.s x1]=(.br (okR (qp [(.s x0),(.s x1)])) (.br (inb 3 (qH (gR (qp [(.s x0),(.s x1)]) 0))) (.br (inb 2 (qH (gR (qp [(.s x0),(.s x1)]) 0))) (.br (okR (wA [(.s (cS (gR (qp [(.s x0),(.s x1)]) 0) 3 0)),(.s (cS (gR (qp [(.s x0),(.s x1)]) 0) 2 0))])) (.leaf (0,[(.s (gS (wA [(.s (cS (gR (qp [(.s x0),(.s x1)]) 0) 3 0)),(.s (cS (gR (qp [(.s x0),(.s x1)]) 0) 2 0))]) 0))])) .fail) .fail) .fail) .fail):=by kernel_rfl
theorem qvI (x0:List UInt8) (x1:List UInt8) (x2:List UInt8) (x3:List UInt8):ub [.s x0,.s x1,.s x2,.s x3]=(.br (okR (qI [(.s x0),(.s x2)])) (.br (okR (qI [(.s x1),(.s x3)])) (.br (okR (zO [(.s (gS (qI [(.s x0),(.s x2)]) 0)),(.s (gS (qI [(.s x1),(.s x3)]) 0))])) (.leaf (0,[(.s (gS (zO [(.s (gS (qI [(.s x0),(.s x2)]) 0)),(.s (gS (qI [(.s x1),(.s x3)]) 0))]) 0))])) .fail) .fail) .fail):=by kernel_rfl
theorem qrV (x0:List UInt8) (x1:List UInt8):zw [.s x0,.s x1]=(.br (okR (qp [(.s x0),(.s x1)])) (.br (inb 0 (qH (gR (qp [(.s x0),(.s x1)]) 0))) (.br (inb 1 (qH (gR (qp [(.s x0),(.s x1)]) 0))) (.br (okR (wx [(.s (cS (gR (qp [(.s x0),(.s x1)]) 0) 0 0)),(.s (cS (gR (qp [(.s x0),(.s x1)]) 0) 1 0))])) (.br (inb 2 (qH (gR (qp [(.s x0),(.s x1)]) 0))) (.br (okR (wA [(.s (gS (wx [(.s (cS (gR (qp [(.s x0),(.s x1)]) 0) 0 0)),(.s (cS (gR (qp [(.s x0),(.s x1)]) 0) 1 0))]) 0)),(.s (cS (gR (qp [(.s x0),(.s x1)]) 0) 2 0))])) (.leaf (0,[(.s (gS (wA [(.s (gS (wx [(.s (cS (gR (qp [(.s x0),(.s x1)]) 0) 0 0)),(.s (cS (gR (qp [(.s x0),(.s x1)]) 0) 1 0))]) 0)),(.s (cS (gR (qp [(.s x0),(.s x1)]) 0) 2 0))]) 0))])) .fail) .fail) .fail) .fail) .fail) .fail):=by kernel_rfl
theorem qrR (x0:List UInt8) (x1:List UInt8) (x2:List UInt8) (x3:List UInt8):zY [.s x0,.s x1,.s x2,.s x3]=(.br (okR (zw [(.s x0),(.s x2)])) (.br (okR (zw [(.s x1),(.s x3)])) (.leaf (0,[(.s (gS (zw [(.s x0),(.s x2)]) 0)),(.s (gS (zw [(.s x1),(.s x3)]) 0))])) .fail) .fail):=by kernel_rfl
theorem qvX (x0:List UInt8) (x1:List UInt8) (x2:List UInt8) (x3:List UInt8):vu [.s x0,.s x1,.s x2,.s x3]=(.br (okR (zY [(.s x0),(.s x1),(.s x2),(.s x3)])) (.br (okR (zY [(.s x0),(.s x1),(.s x2),(.s x3)])) (.br (okR (ub [(.s (gS (zY [(.s x0),(.s x1),(.s x2),(.s x3)]) 0)),(.s (gS (zY [(.s x0),(.s x1),(.s x2),(.s x3)]) 1)),(.s (gS (zY [(.s x0),(.s x1),(.s x2),(.s x3)]) 0)),(.s (gS (zY [(.s x0),(.s x1),(.s x2),(.s x3)]) 1))])) (.leaf (0,[(.s (gS (ub [(.s (gS (zY [(.s x0),(.s x1),(.s x2),(.s x3)]) 0)),(.s (gS (zY [(.s x0),(.s x1),(.s x2),(.s x3)]) 1)),(.s (gS (zY [(.s x0),(.s x1),(.s x2),(.s x3)]) 0)),(.s (gS (zY [(.s x0),(.s x1),(.s x2),(.s x3)]) 1))]) 0))])) .fail) .fail) .fail):=by kernel_rfl
theorem qtM (x0:List UInt8) (x1:List UInt8) (x2:List UInt8):yS [.s x0,.s x1,.s x2]=(.br (okR (zx [(.s x0)])) (.br (okR (zx [(.s x1)])) (.br (okR (zx [(.s x2)])) (.br (ile 0 (q0K .i64 (gI (zx [(.s x0)]) 0) (q0K .i64 (gI (zx [(.s x1)]) 0) (gI (zx [(.s x2)]) 0)))) (.br (ieq (gI (zx [(.s x0)]) 0) 0) (.leaf (0,[(.i (q0K .i64 (gI (zx [(.s x1)]) 0) (gI (zx [(.s x2)]) 0)))])) (.leaf (0,[(.i (gI (zx [(.s x0)]) 0))]))) (.br (okR (qI [(.s x0),(.s x0)])) (.br (okR (qI [(.s x1),(.s x1)])) (.br (okR (qI [(.s (gS (qI [(.s x1),(.s x1)]) 0)),(.s x2)])) (.br (okR (jf [(.s (gS (qI [(.s x0),(.s x0)]) 0)),(.s (gS (qI [(.s (gS (qI [(.s x1),(.s x1)]) 0)),(.s x2)]) 0))])) (.leaf (0,[(.i (q0K .i64 (gI (zx [(.s x0)]) 0) (gI (jf [(.s (gS (qI [(.s x0),(.s x0)]) 0)),(.s (gS (qI [(.s (gS (qI [(.s x1),(.s x1)]) 0)),(.s x2)]) 0))]) 0)))])) .fail) .fail) .fail) .fail)) .fail) .fail) .fail):=by kernel_rfl
theorem qrq (x0:List UInt8) (x1:List UInt8) (x2:List UInt8) (x3:List UInt8) (x4:List UInt8) (x5:List UInt8):q3x [.s x0,.s x1,.s x2,.s x3,.s x4,.s x5]=(.br (okR (vu [(.s x0),(.s x1),(.s x3),(.s x4)])) (.br (okR (zO [(.s x2),(.s x5)])) (.br (okR (zw [(.s (gS (vu [(.s x0),(.s x1),(.s x3),(.s x4)]) 0)),(.s (gS (zO [(.s x2),(.s x5)]) 0))])) (.br (okR (qI [(.s x2),(.s x5)])) (.br (okR (yS [(.s (gS (zw [(.s (gS (vu [(.s x0),(.s x1),(.s x3),(.s x4)]) 0)),(.s (gS (zO [(.s x2),(.s x5)]) 0))]) 0)),(.s [50]),(.s (gS (qI [(.s x2),(.s x5)]) 0))])) (.leaf (0,[(.i (gI (yS [(.s (gS (zw [(.s (gS (vu [(.s x0),(.s x1),(.s x3),(.s x4)]) 0)),(.s (gS (zO [(.s x2),(.s x5)]) 0))]) 0)),(.s [50]),(.s (gS (qI [(.s x2),(.s x5)]) 0))]) 0))])) .fail) .fail) .fail) .fail) .fail):=by kernel_rfl
theorem qqJ (x0:List UInt8) (x1:List UInt8) (x2:List UInt8) (x3:List UInt8) (x4:List UInt8) (x5:List UInt8):wC [.s x0,.s x1,.s x2,.s x3,.s x4,.s x5]=(.br (okR (q3x [(.s x0),(.s x1),(.s x2),(.s x3),(.s x4),(.s x5)])) (.br (ile (gI (q3x [(.s x0),(.s x1),(.s x2),(.s x3),(.s x4),(.s x5)]) 0) 0) (.br (okR (jf [(.s x2),(.s x5)])) (.leaf (0,[(.b (ile (gI (jf [(.s x2),(.s x5)]) 0) 0))])) .fail) (.leaf (0,[(.b false)]))) .fail):=by kernel_rfl
theorem qvN (x0:List UInt8) (x1:List UInt8) (x2:List UInt8) (x3:List UInt8) (x4:List UInt8) (x5:List UInt8):q6t [.s x0,.s x1,.s x2,.s x3,.s x4,.s x5]=(.br (okR (vu [(.s x0),(.s x1),(.s x3),(.s x4)])) (.br (okR (zO [(.s x2),(.s x5)])) (.br (okR (zw [(.s (gS (vu [(.s x0),(.s x1),(.s x3),(.s x4)]) 0)),(.s (gS (zO [(.s x2),(.s x5)]) 0))])) (.br (okR (qI [(.s x2),(.s x5)])) (.br (okR (yS [(.s (gS (zw [(.s (gS (vu [(.s x0),(.s x1),(.s x3),(.s x4)]) 0)),(.s (gS (zO [(.s x2),(.s x5)]) 0))]) 0)),(.s [45,50]),(.s (gS (qI [(.s x2),(.s x5)]) 0))])) (.leaf (0,[(.i (gI (yS [(.s (gS (zw [(.s (gS (vu [(.s x0),(.s x1),(.s x3),(.s x4)]) 0)),(.s (gS (zO [(.s x2),(.s x5)]) 0))]) 0)),(.s [45,50]),(.s (gS (qI [(.s x2),(.s x5)]) 0))]) 0))])) .fail) .fail) .fail) .fail) .fail):=by kernel_rfl
theorem qua (x0:List UInt8) (x1:List UInt8) (x2:List UInt8) (x3:List UInt8) (x4:List UInt8) (x5:List UInt8):q4T [.s x0,.s x1,.s x2,.s x3,.s x4,.s x5]=(.br (okR (wC [(.s x0),(.s x1),(.s x2),(.s x3),(.s x4),(.s x5)])) (.br (gB (wC [(.s x0),(.s x1),(.s x2),(.s x3),(.s x4),(.s x5)]) 0) (.leaf (0,[(.i 2)])) (.br (okR (wC [(.s x3),(.s x4),(.s x5),(.s x0),(.s x1),(.s x2)])) (.br (gB (wC [(.s x3),(.s x4),(.s x5),(.s x0),(.s x1),(.s x2)]) 0) (.leaf (0,[(.i 3)])) (.br (okR (q6t [(.s x0),(.s x1),(.s x2),(.s x3),(.s x4),(.s x5)])) (.leaf (0,[(.i (zi .i64 0 (gI (q6t [(.s x0),(.s x1),(.s x2),(.s x3),(.s x4),(.s x5)]) 0)))])) .fail)) .fail)) .fail):=by kernel_rfl
theorem q9C (x0:List UInt8) (x1:List UInt8) (x2:List UInt8) (x3:List UInt8) (x4:List UInt8) (x5:List UInt8):q0I [.s x0,.s x1,.s x2,.s x3,.s x4,.s x5]=(.br (okR (zz [(.s x0),(.s x1),(.s x2)])) (.br (ine (gI (zz [(.s x0),(.s x1),(.s x2)]) 0) 0) (.leaf (0,[(.i 0),(.i (gI (zz [(.s x0),(.s x1),(.s x2)]) 0))])) (.br (okR (zz [(.s x3),(.s x4),(.s x5)])) (.br (ine (gI (zz [(.s x3),(.s x4),(.s x5)]) 0) 0) (.leaf (0,[(.i 0),(.i (gI (zz [(.s x3),(.s x4),(.s x5)]) 0))])) (.br (okR (q4T [(.s x0),(.s x1),(.s x2),(.s x3),(.s x4),(.s x5)])) (.leaf (0,[(.i (gI (q4T [(.s x0),(.s x1),(.s x2),(.s x3),(.s x4),(.s x5)]) 0)),(.i 0)])) .fail)) .fail)) .fail):=by kernel_rfl
theorem qh4 (x0:List UInt8) (x1:List UInt8) (x2:List UInt8) (x3:List UInt8) (x4:List UInt8) (x5:List UInt8):ke [.s x0,.s x1,.s x2,.s x3,.s x4,.s x5]=(.br (okR (va [(.s x0),(.s x1),(.s x2)])) (.br (not (gB (va [(.s x0),(.s x1),(.s x2)]) 0)) (.br (okR (qS [])) (.leaf (0,[(.b (gB (qS []) 0))])) .fail) (.br (okR (va [(.s x3),(.s x4),(.s x5)])) (.br (not (gB (va [(.s x3),(.s x4),(.s x5)]) 0)) (.br (okR (qS [])) (.leaf (0,[(.b (gB (qS []) 0))])) .fail) (.br (okR (jB [(.s x0),(.s x1),(.s x2),(.s x3),(.s x4),(.s x5)])) (.br (okR (q0I [(.s x0),(.s x1),(.s x2),(.s x3),(.s x4),(.s x5)])) (.br (okR (qS [])) (.br (gB (qS []) 0) (.br (okR (zA [(.s x0),(.s x1),(.s x2)])) (.br (okR (zz [(.s x0),(.s x1),(.s x2)])) (.br (ieq (gI (zA [(.s x0),(.s x1),(.s x2)]) 0) (gI (zz [(.s x0),(.s x1),(.s x2)]) 0)) (.br (ieq (gI (jB [(.s x0),(.s x1),(.s x2),(.s x3),(.s x4),(.s x5)]) 0) (gI (q0I [(.s x0),(.s x1),(.s x2),(.s x3),(.s x4),(.s x5)]) 0)) (.leaf (0,[(.b (ieq (gI (jB [(.s x0),(.s x1),(.s x2),(.s x3),(.s x4),(.s x5)]) 1) (gI (q0I [(.s x0),(.s x1),(.s x2),(.s x3),(.s x4),(.s x5)]) 1)))])) (.leaf (0,[(.b false)]))) (.leaf (0,[(.b false)]))) .fail) .fail) (.leaf (0,[(.b false)]))) .fail) .fail) .fail)) .fail)) .fail):=by kernel_rfl
theorem qhx (y0:R) (y1:Int):yB [.r y0,.i y1]=(.br (ilt y1 (qH y0)) (.br (ilt y1 6) (.br (inb y1 (qH y0)) (.br (okR (va [(.s (cS y0 y1 0)),(.s (cS y0 y1 1)),(.s (cS y0 y1 2))])) (.br (not (gB (va [(.s (cS y0 y1 0)),(.s (cS y0 y1 1)),(.s (cS y0 y1 2))]) 0)) (.leaf (2,[(.b false)])) (.leaf (0,[(.r y0),(.i (qw .i64 y1 1))]))) .fail) .fail) (.leaf (1,[(.r y0)]))) (.leaf (1,[(.r y0)]))):=by kernel_rfl
theorem qv3 (x0:R):u6 [.r x0]=(.br (okR (qg yB [(.r x0),(.i 0)])) (.br (jIs (qg yB [(.r x0),(.i 0)]) 0) (.br (ile (qH (gR (qg yB [(.r x0),(.i 0)]) 0)) 5) (.leaf (0,[(.b true)])) (.br (ilt 64 (qH (gR (qg yB [(.r x0),(.i 0)]) 0))) (.leaf (0,[(.b (ilt (qH (gR (qg yB [(.r x0),(.i 0)]) 0)) 128))])) (.leaf (0,[(.b false)])))) (.leaf (0,[(.b (gB (qg yB [(.r x0),(.i 0)]) 0))]))) .fail):=by kernel_rfl
theorem qfU (y0:R) (y1:Int):uE [.r y0,.i y1]=(.br (ilt y1 (qH y0)) (.br (inb y1 (qH y0)) (.br (okR (zz [(.s (cS y0 y1 0)),(.s (cS y0 y1 1)),(.s (cS y0 y1 2))])) (.br (ine (gI (zz [(.s (cS y0 y1 0)),(.s (cS y0 y1 1)),(.s (cS y0 y1 2))]) 0) 0) (.leaf (2,[(.i (gI (zz [(.s (cS y0 y1 0)),(.s (cS y0 y1 1)),(.s (cS y0 y1 2))]) 0))])) (.leaf (0,[(.r y0),(.i (qw .i64 y1 1))]))) .fail) .fail) (.leaf (1,[(.r y0)]))):=by kernel_rfl
theorem qui (x0:R):zQ [.r x0]=(.br (ilt 64 (qH x0)) (.leaf (0,[(.i 5)])) (.br (okR (qg uE [(.r x0),(.i 0)])) (.br (jIs (qg uE [(.r x0),(.i 0)]) 0) (.br (ieq (qH (gR (qg uE [(.r x0),(.i 0)]) 0)) 0) (.leaf (0,[(.i 13)])) (.leaf (0,[(.i 0)]))) (.leaf (0,[(.i (gI (qg uE [(.r x0),(.i 0)]) 0))]))) .fail)):=by kernel_rfl
theorem qpg (x0:List UInt8):jC [.s x0]=(.br (okR (zw [(.s [48]),(.s x0)])) (.leaf (0,[(.s (gS (zw [(.s [48]),(.s x0)]) 0))])) .fail):=by kernel_rfl
theorem qx6 (x0:List UInt8) (x1:List UInt8):q99 [.s x0,.s x1]=(.br (okR (qp [(.s x0),(.s x1)])) (.br (inb 0 (qH (gR (qp [(.s x0),(.s x1)]) 0))) (.br (inb 4 (qH (gR (qp [(.s x0),(.s x1)]) 0))) (.br (okR (wA [(.s (cS (gR (qp [(.s x0),(.s x1)]) 0) 0 0)),(.s (cS (gR (qp [(.s x0),(.s x1)]) 0) 4 0))])) (.leaf (0,[(.s (gS (wA [(.s (cS (gR (qp [(.s x0),(.s x1)]) 0) 0 0)),(.s (cS (gR (qp [(.s x0),(.s x1)]) 0) 4 0))]) 0))])) .fail) .fail) .fail) .fail):=by kernel_rfl
theorem qmE (x0:List UInt8) (x1:List UInt8) (x2:List UInt8) (x3:List UInt8) (x4:List UInt8) (x5:List UInt8):zr [.s x0,.s x1,.s x2,.s x3,.s x4,.s x5]=(let r0:TR:=(zY [(.s x3),(.s x4),(.s x0),(.s x1)])
 .br (okR r0) (let r1:TR:=(ub [(.s (gS r0 0)),(.s (gS r0 1)),(.s (gS r0 0)),(.s (gS r0 1))])
 .br (okR r1) (.br (seq (gS r1 0) [48]) (.leaf (0,[(.s []),(.s []),(.s []),(.s []),(.s []),(.b false)])) (let r2:TR:=(zO [(.s (gS r1 0)),(.s x2)])
 .br (okR r2) (let r3:TR:=(zw [(.s (gS r2 0)),(.s x5)])
 .br (okR r3) (let r4:TR:=(qI [(.s [50]),(.s (gS r1 0))])
 .br (okR r4) (let r5:TR:=(q99 [(.s (gS r3 0)),(.s (gS r4 0))])
 .br (okR r5) (let r6:TR:=(q99 [(.s x2),(.s (gS r1 0))])
 .br (okR r6) (let r7:TR:=(qI [(.s (gS r5 0)),(.s (gS r5 0))])
 .br (okR r7) (let r8:TR:=(zw [(.s (gS r6 0)),(.s (gS r7 0))])
 .br (okR r8) (let r9:TR:=(qI [(.s (gS r5 0)),(.s (gS r0 0))])
 .br (okR r9) (let r10:TR:=(zO [(.s x0),(.s (gS r9 0))])
 .br (okR r10) (let r11:TR:=(qI [(.s (gS r5 0)),(.s (gS r0 1))])
 .br (okR r11) (let r12:TR:=(zO [(.s x1),(.s (gS r11 0))])
 .br (okR r12) (let r13:TR:=(jC [(.s (gS r0 1))])
 .br (okR r13) (let r14:TR:=(zx [(.s (gS r8 0))])
 .br (okR r14) (.leaf (0,[(.s (gS r10 0)),(.s (gS r12 0)),(.s (gS r13 0)),(.s (gS r0 0)),(.s (gS r8 0)),(.b (ile 0 (gI r14 0)))])) .fail) .fail) .fail) .fail) .fail) .fail) .fail) .fail) .fail) .fail) .fail) .fail) .fail)) .fail) .fail):=by kernel_rfl
theorem qnG (x0:R) (x1:Int) (x2:Int) (x3:Int):ze [.r x0,.i x1,.i x2,.i x3]=(.br (ieq x1 x2) (.br (inb x1 (qH x0)) (.leaf (0,[(.s (cS x0 x1 0)),(.s (cS x0 x1 1)),(.s [48]),(.s [48]),(.s [48]),(.b (ieq x3 0))])) .fail) (.br (inb x1 (qH x0)) (.br (inb x2 (qH x0)) (.br (okR (zr [(.s (cS x0 x1 0)),(.s (cS x0 x1 1)),(.s (cS x0 x1 2)),(.s (cS x0 x2 0)),(.s (cS x0 x2 1)),(.s (cS x0 x2 2))])) (.br (not (gB (zr [(.s (cS x0 x1 0)),(.s (cS x0 x1 1)),(.s (cS x0 x1 2)),(.s (cS x0 x2 0)),(.s (cS x0 x2 1)),(.s (cS x0 x2 2))]) 5)) (.leaf (0,[(.s []),(.s []),(.s []),(.s []),(.s []),(.b false)])) (.br (not (beq (seq (gS (zr [(.s (cS x0 x1 0)),(.s (cS x0 x1 1)),(.s (cS x0 x1 2)),(.s (cS x0 x2 0)),(.s (cS x0 x2 1)),(.s (cS x0 x2 2))]) 4) [48]) (ieq x3 0))) (.leaf (0,[(.s []),(.s []),(.s []),(.s []),(.s []),(.b false)])) (.br (ilt x3 0) (.br (okR (jC [(.s (gS (zr [(.s (cS x0 x1 0)),(.s (cS x0 x1 1)),(.s (cS x0 x1 2)),(.s (cS x0 x2 0)),(.s (cS x0 x2 1)),(.s (cS x0 x2 2))]) 2))])) (.br (okR (jC [(.s (gS (zr [(.s (cS x0 x1 0)),(.s (cS x0 x1 1)),(.s (cS x0 x1 2)),(.s (cS x0 x2 0)),(.s (cS x0 x2 1)),(.s (cS x0 x2 2))]) 3))])) (.leaf (0,[(.s (gS (zr [(.s (cS x0 x1 0)),(.s (cS x0 x1 1)),(.s (cS x0 x1 2)),(.s (cS x0 x2 0)),(.s (cS x0 x2 1)),(.s (cS x0 x2 2))]) 0)),(.s (gS (zr [(.s (cS x0 x1 0)),(.s (cS x0 x1 1)),(.s (cS x0 x1 2)),(.s (cS x0 x2 0)),(.s (cS x0 x2 1)),(.s (cS x0 x2 2))]) 1)),(.s (gS (jC [(.s (gS (zr [(.s (cS x0 x1 0)),(.s (cS x0 x1 1)),(.s (cS x0 x1 2)),(.s (cS x0 x2 0)),(.s (cS x0 x2 1)),(.s (cS x0 x2 2))]) 2))]) 0)),(.s (gS (jC [(.s (gS (zr [(.s (cS x0 x1 0)),(.s (cS x0 x1 1)),(.s (cS x0 x1 2)),(.s (cS x0 x2 0)),(.s (cS x0 x2 1)),(.s (cS x0 x2 2))]) 3))]) 0)),(.s (gS (zr [(.s (cS x0 x1 0)),(.s (cS x0 x1 1)),(.s (cS x0 x1 2)),(.s (cS x0 x2 0)),(.s (cS x0 x2 1)),(.s (cS x0 x2 2))]) 4)),(.b true)])) .fail) .fail) (.leaf (0,[(.s (gS (zr [(.s (cS x0 x1 0)),(.s (cS x0 x1 1)),(.s (cS x0 x1 2)),(.s (cS x0 x2 0)),(.s (cS x0 x2 1)),(.s (cS x0 x2 2))]) 0)),(.s (gS (zr [(.s (cS x0 x1 0)),(.s (cS x0 x1 1)),(.s (cS x0 x1 2)),(.s (cS x0 x2 0)),(.s (cS x0 x2 1)),(.s (cS x0 x2 2))]) 1)),(.s (gS (zr [(.s (cS x0 x1 0)),(.s (cS x0 x1 1)),(.s (cS x0 x1 2)),(.s (cS x0 x2 0)),(.s (cS x0 x2 1)),(.s (cS x0 x2 2))]) 2)),(.s (gS (zr [(.s (cS x0 x1 0)),(.s (cS x0 x1 1)),(.s (cS x0 x1 2)),(.s (cS x0 x2 0)),(.s (cS x0 x2 1)),(.s (cS x0 x2 2))]) 3)),(.s (gS (zr [(.s (cS x0 x1 0)),(.s (cS x0 x1 1)),(.s (cS x0 x1 2)),(.s (cS x0 x2 0)),(.s (cS x0 x2 1)),(.s (cS x0 x2 2))]) 4)),(.b true)]))))) .fail) .fail) .fail)):=by kernel_rfl
theorem qsd (x0:List UInt8) (x1:List UInt8) (x2:List UInt8) (x3:List UInt8) (x4:List UInt8) (x5:List UInt8) (x6:List UInt8) (x7:List UInt8):q1H [.s x0,.s x1,.s x2,.s x3,.s x4,.s x5,.s x6,.s x7]=(let r0:TR:=(zY [(.s x3),(.s x4),(.s x0),(.s x1)])
 .br (okR r0) (let r1:TR:=(ub [(.s (gS r0 0)),(.s (gS r0 1)),(.s (gS r0 0)),(.s (gS r0 1))])
 .br (okR r1) (let r2:TR:=(ub [(.s x5),(.s x6),(.s x5),(.s x6)])
 .br (okR r2) (let r3:TR:=(qI [(.s x7),(.s (gS r2 0))])
 .br (okR r3) (let r4:TR:=(zO [(.s (gS r1 0)),(.s (gS r3 0))])
 .br (okR r4) (let r5:TR:=(zw [(.s (gS r4 0)),(.s x2)])
 .br (okR r5) (let r6:TR:=(ub [(.s (gS r0 0)),(.s (gS r0 1)),(.s x5),(.s x6)])
 .br (okR r6) (let r7:TR:=(qI [(.s [50]),(.s (gS r6 0))])
 .br (okR r7) (let r8:TR:=(yS [(.s (gS r5 0)),(.s (gS r7 0)),(.s x7)])
 .br (okR r8) (.leaf (0,[(.b (ile (gI r8 0) 0))])) .fail) .fail) .fail) .fail) .fail) .fail) .fail) .fail) .fail):=by kernel_rfl
theorem q6o (y0:R) (y1:Int) (y2:List UInt8) (y3:List UInt8) (y4:List UInt8) (y5:List UInt8) (y6:List UInt8):u5 [.r y0,.i y1,.s y2,.s y3,.s y4,.s y5,.s y6]=(.br (ilt y1 (qH y0)) (.br (inb y1 (qH y0)) (.br (okR (q1H [(.s (cS y0 y1 0)),(.s (cS y0 y1 1)),(.s (cS y0 y1 2)),(.s y2),(.s y3),(.s y4),(.s y5),(.s y6)])) (.br (not (gB (q1H [(.s (cS y0 y1 0)),(.s (cS y0 y1 1)),(.s (cS y0 y1 2)),(.s y2),(.s y3),(.s y4),(.s y5),(.s y6)]) 0)) (.leaf (2,[(.b false)])) (.leaf (0,[(.r y0),(.i (qw .i64 y1 1)),(.s y2),(.s y3),(.s y4),(.s y5),(.s y6)]))) .fail) .fail) (.leaf (1,[]))):=by kernel_rfl
theorem qpG (x0:R) (x1:Int) (x2:Int) (x3:Int):we [.r x0,.i x1,.i x2,.i x3]=(.br (okR (ze [(.r x0),(.i x1),(.i x2),(.i x3)])) (.br (not (gB (ze [(.r x0),(.i x1),(.i x2),(.i x3)]) 5)) (.leaf (0,[(.b false)])) (.br (okR (qg u5 [(.r x0),(.i 0),(.s (gS (ze [(.r x0),(.i x1),(.i x2),(.i x3)]) 0)),(.s (gS (ze [(.r x0),(.i x1),(.i x2),(.i x3)]) 1)),(.s (gS (ze [(.r x0),(.i x1),(.i x2),(.i x3)]) 2)),(.s (gS (ze [(.r x0),(.i x1),(.i x2),(.i x3)]) 3)),(.s (gS (ze [(.r x0),(.i x1),(.i x2),(.i x3)]) 4))])) (.br (jIs (qg u5 [(.r x0),(.i 0),(.s (gS (ze [(.r x0),(.i x1),(.i x2),(.i x3)]) 0)),(.s (gS (ze [(.r x0),(.i x1),(.i x2),(.i x3)]) 1)),(.s (gS (ze [(.r x0),(.i x1),(.i x2),(.i x3)]) 2)),(.s (gS (ze [(.r x0),(.i x1),(.i x2),(.i x3)]) 3)),(.s (gS (ze [(.r x0),(.i x1),(.i x2),(.i x3)]) 4))]) 0) (.leaf (0,[(.b true)])) (.leaf (0,[(.b (gB (qg u5 [(.r x0),(.i 0),(.s (gS (ze [(.r x0),(.i x1),(.i x2),(.i x3)]) 0)),(.s (gS (ze [(.r x0),(.i x1),(.i x2),(.i x3)]) 1)),(.s (gS (ze [(.r x0),(.i x1),(.i x2),(.i x3)]) 2)),(.s (gS (ze [(.r x0),(.i x1),(.i x2),(.i x3)]) 3)),(.s (gS (ze [(.r x0),(.i x1),(.i x2),(.i x3)]) 4))]) 0))]))) .fail)) .fail):=by kernel_rfl
theorem qez (y0:R) (y1:Int) (y2:Int) (y3:Int) (y4:Int):qD [.r y0,.i y1,.i y2,.i y3,.i y4]=(.br (ilt y1 (qH y0)) (.br (okR (we [(.r y0),(.i y1),(.i y1),(.i 0)])) (.br (gB (we [(.r y0),(.i y1),(.i y1),(.i 0)]) 0) (.leaf (2,[(.b true),(.i y1),(.i y1),(.i 0)])) (.leaf (0,[(.r y0),(.i (qw .i64 y1 1)),(.i y2),(.i y3),(.i y4)]))) .fail) (.leaf (1,[(.r y0),(.i y2),(.i y3),(.i y4)]))):=by kernel_rfl
theorem qcH (y0:R) (y1:Int) (y2:Int) (y3:Int) (y4:Int) (y5:Int) (y6:Int) (y7:Int) (y8:R):zD [.r y0,.i y1,.i y2,.i y3,.i y4,.i y5,.i y6,.i y7,.r y8]=(.br (ilt y4 y3) (.br (inb y4 (qH y8)) (.br (okR (we [(.r y0),(.i y1),(.i y2),(.i (cI y8 y4 0))])) (.br (gB (we [(.r y0),(.i y1),(.i y2),(.i (cI y8 y4 0))]) 0) (.leaf (2,[(.b true),(.i y1),(.i y2),(.i (cI y8 y4 0))])) (.leaf (0,[(.r y0),(.i y1),(.i y2),(.i y3),(.i (qw .i64 y4 1)),(.i y5),(.i y6),(.i y7),(.r y8)]))) .fail) .fail) (.leaf (1,[(.r y0),(.i y1),(.i y2),(.i y5),(.i y6),(.i y7)]))):=by kernel_rfl
theorem qcU (y0:R) (y1:Int) (y2:Int) (y3:Int) (y4:Int) (y5:Int):zL [.r y0,.i y1,.i y2,.i y3,.i y4,.i y5]=(.br (ilt y2 (qH y0)) (.br (okR (qg zD [(.r y0),(.i y1),(.i y2),(.i (qH [[(.i 0)],[(.i 1)],[(.i (-1))]])),(.i 0),(.i y3),(.i y4),(.i y5),(.r [[(.i 0)],[(.i 1)],[(.i (-1))]])])) (.br (jIs (qg zD [(.r y0),(.i y1),(.i y2),(.i (qH [[(.i 0)],[(.i 1)],[(.i (-1))]])),(.i 0),(.i y3),(.i y4),(.i y5),(.r [[(.i 0)],[(.i 1)],[(.i (-1))]])]) 0) (.leaf (0,[(.r (gR (qg zD [(.r y0),(.i y1),(.i y2),(.i (qH [[(.i 0)],[(.i 1)],[(.i (-1))]])),(.i 0),(.i y3),(.i y4),(.i y5),(.r [[(.i 0)],[(.i 1)],[(.i (-1))]])]) 0)),(.i (gI (qg zD [(.r y0),(.i y1),(.i y2),(.i (qH [[(.i 0)],[(.i 1)],[(.i (-1))]])),(.i 0),(.i y3),(.i y4),(.i y5),(.r [[(.i 0)],[(.i 1)],[(.i (-1))]])]) 1)),(.i (qw .i64 (gI (qg zD [(.r y0),(.i y1),(.i y2),(.i (qH [[(.i 0)],[(.i 1)],[(.i (-1))]])),(.i 0),(.i y3),(.i y4),(.i y5),(.r [[(.i 0)],[(.i 1)],[(.i (-1))]])]) 2) 1)),(.i (gI (qg zD [(.r y0),(.i y1),(.i y2),(.i (qH [[(.i 0)],[(.i 1)],[(.i (-1))]])),(.i 0),(.i y3),(.i y4),(.i y5),(.r [[(.i 0)],[(.i 1)],[(.i (-1))]])]) 3)),(.i (gI (qg zD [(.r y0),(.i y1),(.i y2),(.i (qH [[(.i 0)],[(.i 1)],[(.i (-1))]])),(.i 0),(.i y3),(.i y4),(.i y5),(.r [[(.i 0)],[(.i 1)],[(.i (-1))]])]) 4)),(.i (gI (qg zD [(.r y0),(.i y1),(.i y2),(.i (qH [[(.i 0)],[(.i 1)],[(.i (-1))]])),(.i 0),(.i y3),(.i y4),(.i y5),(.r [[(.i 0)],[(.i 1)],[(.i (-1))]])]) 5))])) (.leaf (2,[(.b (gB (qg zD [(.r y0),(.i y1),(.i y2),(.i (qH [[(.i 0)],[(.i 1)],[(.i (-1))]])),(.i 0),(.i y3),(.i y4),(.i y5),(.r [[(.i 0)],[(.i 1)],[(.i (-1))]])]) 0)),(.i (gI (qg zD [(.r y0),(.i y1),(.i y2),(.i (qH [[(.i 0)],[(.i 1)],[(.i (-1))]])),(.i 0),(.i y3),(.i y4),(.i y5),(.r [[(.i 0)],[(.i 1)],[(.i (-1))]])]) 1)),(.i (gI (qg zD [(.r y0),(.i y1),(.i y2),(.i (qH [[(.i 0)],[(.i 1)],[(.i (-1))]])),(.i 0),(.i y3),(.i y4),(.i y5),(.r [[(.i 0)],[(.i 1)],[(.i (-1))]])]) 2)),(.i (gI (qg zD [(.r y0),(.i y1),(.i y2),(.i (qH [[(.i 0)],[(.i 1)],[(.i (-1))]])),(.i 0),(.i y3),(.i y4),(.i y5),(.r [[(.i 0)],[(.i 1)],[(.i (-1))]])]) 3))]))) .fail) (.leaf (1,[(.r y0),(.i y1),(.i y3),(.i y4),(.i y5)]))):=by kernel_rfl
theorem qcB (y0:R) (y1:Int) (y2:Int) (y3:Int) (y4:Int):vD [.r y0,.i y1,.i y2,.i y3,.i y4]=(.br (ilt y1 (qH y0)) (.br (okR (qg zL [(.r y0),(.i y1),(.i (qw .i64 y1 1)),(.i y2),(.i y3),(.i y4)])) (.br (jIs (qg zL [(.r y0),(.i y1),(.i (qw .i64 y1 1)),(.i y2),(.i y3),(.i y4)]) 0) (.leaf (0,[(.r (gR (qg zL [(.r y0),(.i y1),(.i (qw .i64 y1 1)),(.i y2),(.i y3),(.i y4)]) 0)),(.i (qw .i64 (gI (qg zL [(.r y0),(.i y1),(.i (qw .i64 y1 1)),(.i y2),(.i y3),(.i y4)]) 1) 1)),(.i (gI (qg zL [(.r y0),(.i y1),(.i (qw .i64 y1 1)),(.i y2),(.i y3),(.i y4)]) 2)),(.i (gI (qg zL [(.r y0),(.i y1),(.i (qw .i64 y1 1)),(.i y2),(.i y3),(.i y4)]) 3)),(.i (gI (qg zL [(.r y0),(.i y1),(.i (qw .i64 y1 1)),(.i y2),(.i y3),(.i y4)]) 4))])) (.leaf (2,[(.b (gB (qg zL [(.r y0),(.i y1),(.i (qw .i64 y1 1)),(.i y2),(.i y3),(.i y4)]) 0)),(.i (gI (qg zL [(.r y0),(.i y1),(.i (qw .i64 y1 1)),(.i y2),(.i y3),(.i y4)]) 1)),(.i (gI (qg zL [(.r y0),(.i y1),(.i (qw .i64 y1 1)),(.i y2),(.i y3),(.i y4)]) 2)),(.i (gI (qg zL [(.r y0),(.i y1),(.i (qw .i64 y1 1)),(.i y2),(.i y3),(.i y4)]) 3))]))) .fail) (.leaf (1,[(.i y2),(.i y3),(.i y4)]))):=by kernel_rfl
theorem qrf (x0:R):zP [.r x0]=(.br (okR (qg qD [(.r x0),(.i 0),(.i 0),(.i 0),(.i 0)])) (.br (jIs (qg qD [(.r x0),(.i 0),(.i 0),(.i 0),(.i 0)]) 0) (.br (okR (qg vD [(.r (gR (qg qD [(.r x0),(.i 0),(.i 0),(.i 0),(.i 0)]) 0)),(.i 0),(.i (gI (qg qD [(.r x0),(.i 0),(.i 0),(.i 0),(.i 0)]) 1)),(.i (gI (qg qD [(.r x0),(.i 0),(.i 0),(.i 0),(.i 0)]) 2)),(.i (gI (qg qD [(.r x0),(.i 0),(.i 0),(.i 0),(.i 0)]) 3))])) (.br (jIs (qg vD [(.r (gR (qg qD [(.r x0),(.i 0),(.i 0),(.i 0),(.i 0)]) 0)),(.i 0),(.i (gI (qg qD [(.r x0),(.i 0),(.i 0),(.i 0),(.i 0)]) 1)),(.i (gI (qg qD [(.r x0),(.i 0),(.i 0),(.i 0),(.i 0)]) 2)),(.i (gI (qg qD [(.r x0),(.i 0),(.i 0),(.i 0),(.i 0)]) 3))]) 0) (.leaf (0,[(.i 0),(.i 0),(.i 0),(.b false)])) (.leaf (0,[(.i (gI (qg vD [(.r (gR (qg qD [(.r x0),(.i 0),(.i 0),(.i 0),(.i 0)]) 0)),(.i 0),(.i (gI (qg qD [(.r x0),(.i 0),(.i 0),(.i 0),(.i 0)]) 1)),(.i (gI (qg qD [(.r x0),(.i 0),(.i 0),(.i 0),(.i 0)]) 2)),(.i (gI (qg qD [(.r x0),(.i 0),(.i 0),(.i 0),(.i 0)]) 3))]) 1)),(.i (gI (qg vD [(.r (gR (qg qD [(.r x0),(.i 0),(.i 0),(.i 0),(.i 0)]) 0)),(.i 0),(.i (gI (qg qD [(.r x0),(.i 0),(.i 0),(.i 0),(.i 0)]) 1)),(.i (gI (qg qD [(.r x0),(.i 0),(.i 0),(.i 0),(.i 0)]) 2)),(.i (gI (qg qD [(.r x0),(.i 0),(.i 0),(.i 0),(.i 0)]) 3))]) 2)),(.i (gI (qg vD [(.r (gR (qg qD [(.r x0),(.i 0),(.i 0),(.i 0),(.i 0)]) 0)),(.i 0),(.i (gI (qg qD [(.r x0),(.i 0),(.i 0),(.i 0),(.i 0)]) 1)),(.i (gI (qg qD [(.r x0),(.i 0),(.i 0),(.i 0),(.i 0)]) 2)),(.i (gI (qg qD [(.r x0),(.i 0),(.i 0),(.i 0),(.i 0)]) 3))]) 3)),(.b (gB (qg vD [(.r (gR (qg qD [(.r x0),(.i 0),(.i 0),(.i 0),(.i 0)]) 0)),(.i 0),(.i (gI (qg qD [(.r x0),(.i 0),(.i 0),(.i 0),(.i 0)]) 1)),(.i (gI (qg qD [(.r x0),(.i 0),(.i 0),(.i 0),(.i 0)]) 2)),(.i (gI (qg qD [(.r x0),(.i 0),(.i 0),(.i 0),(.i 0)]) 3))]) 0))]))) .fail) (.leaf (0,[(.i (gI (qg qD [(.r x0),(.i 0),(.i 0),(.i 0),(.i 0)]) 1)),(.i (gI (qg qD [(.r x0),(.i 0),(.i 0),(.i 0),(.i 0)]) 2)),(.i (gI (qg qD [(.r x0),(.i 0),(.i 0),(.i 0),(.i 0)]) 3)),(.b (gB (qg qD [(.r x0),(.i 0),(.i 0),(.i 0),(.i 0)]) 0))]))) .fail):=by kernel_rfl
theorem qfk (x0:R):j2 [.r x0]=(.br (okR (zQ [(.r x0)])) (.br (ine (gI (zQ [(.r x0)]) 0) 0) (.leaf (0,[(.b false),(.i 0),(.i 0),(.i 0),(.i (gI (zQ [(.r x0)]) 0))])) (.br (okR (zP [(.r x0)])) (.leaf (0,[(.b (gB (zP [(.r x0)]) 3)),(.i (gI (zP [(.r x0)]) 0)),(.i (gI (zP [(.r x0)]) 1)),(.i (gI (zP [(.r x0)]) 2)),(.i 0)])) .fail)) .fail):=by kernel_rfl
theorem que (x0:Int) (x1:Int) (x2:Int):q1D [.i x0,.i x1,.i x2]=(.leaf (0,[(.i x0),(.i x1),(.i x2)])):=by kernel_rfl
theorem qjZ (x0:R):q1u [.r x0]=(.br (okR (u6 [(.r x0)])) (.br (not (gB (u6 [(.r x0)]) 0)) (.br (okR (qS [])) (.leaf (0,[(.b (gB (qS []) 0))])) .fail) (.br (okR (zn [(.r x0)])) (.br (okR (j2 [(.r x0)])) (.br (okR (qS [])) (.br (gB (qS []) 0) (.br (beq (gB (zn [(.r x0)]) 0) (gB (j2 [(.r x0)]) 0)) (.br (okR (q1D [(.i (gI (zn [(.r x0)]) 1)),(.i (gI (zn [(.r x0)]) 2)),(.i (gI (zn [(.r x0)]) 3))])) (.br (qx9 (ieq (gI (q1D [(.i (gI (zn [(.r x0)]) 1)),(.i (gI (zn [(.r x0)]) 2)),(.i (gI (zn [(.r x0)]) 3))]) 0) (gI (j2 [(.r x0)]) 1)) (qx9 (ieq (gI (q1D [(.i (gI (zn [(.r x0)]) 1)),(.i (gI (zn [(.r x0)]) 2)),(.i (gI (zn [(.r x0)]) 3))]) 1) (gI (j2 [(.r x0)]) 2)) (qx9 (ieq (gI (q1D [(.i (gI (zn [(.r x0)]) 1)),(.i (gI (zn [(.r x0)]) 2)),(.i (gI (zn [(.r x0)]) 3))]) 2) (gI (j2 [(.r x0)]) 3)) true))) (.leaf (0,[(.b (ieq (gI (zn [(.r x0)]) 4) (gI (j2 [(.r x0)]) 4)))])) (.leaf (0,[(.b false)]))) .fail) (.leaf (0,[(.b false)]))) (.leaf (0,[(.b false)]))) .fail) .fail) .fail)) .fail):=by kernel_rfl
theorem kn (y0:Int) (y1:Int) (y2:List UInt8) (y3:List UInt8) (y4:List UInt8) (y5:List UInt8) (y6:List UInt8) (y7:R):vO [.i y0,.i y1,.s y2,.s y3,.s y4,.s y5,.s y6,.r y7]=(.br (ilt y1 y0) (.br (inb y1 (qH y7)) (.br (okR (zt [(.s (cS y7 y1 0))])) (.br (ine (gI (zt [(.s (cS y7 y1 0))]) 0) 0) (.leaf (2,[(.b false),(.i (gI (zt [(.s (cS y7 y1 0))]) 0))])) (.leaf (0,[(.i y0),(.i (qw .i64 y1 1)),(.s y2),(.s y3),(.s y4),(.s y5),(.s y6),(.r y7)]))) .fail) .fail) (.leaf (1,[(.s y2),(.s y3),(.s y4),(.s y5),(.s y6)]))):=by kernel_rfl
theorem q3b (x0:List UInt8) (x1:List UInt8) (x2:List UInt8) (x3:List UInt8) (x4:List UInt8):ya [.s x0,.s x1,.s x2,.s x3,.s x4]=(let r0:TR:=(zA [(.s x0),(.s x1),(.s x2)])
 .br (okR r0) (.br (ine (gI r0 0) 0) (.leaf (0,[(.b false),(.i (gI r0 0))])) (let r1:TR:=(qg vO [(.i (qH [[(.s x3)],[(.s x4)]])),(.i 0),(.s x0),(.s x1),(.s x2),(.s x3),(.s x4),(.r [[(.s x3)],[(.s x4)]])])
 .br (okR r1) (.br (jIs r1 0) (let r2:TR:=(ye [(.s (gS r1 0)),(.s (gS r1 1)),(.s (gS r1 3)),(.s (gS r1 4)),(.i 0)])
 .br (okR r2) (let r3:TR:=(zI [(.s (gS r2 0)),(.s (gS r1 2)),(.i (gI r2 1))])
 .br (okR r3) (.br (ile (gI r3 0) 0) (.leaf (0,[(.b (ieq (gI r3 1) 0)),(.i (gI r3 1))])) (.leaf (0,[(.b false),(.i (gI r3 1))]))) .fail) .fail) (.leaf (0,[(.b (gB r1 0)),(.i (gI r1 1))]))) .fail)) .fail):=by kernel_rfl
theorem qvd (x0:List UInt8) (x1:List UInt8) (x2:List UInt8) (x3:List UInt8) (x4:List UInt8):q6w [.s x0,.s x1,.s x2,.s x3,.s x4]=(.br (okR (vu [(.s x0),(.s x1),(.s x3),(.s x4)])) (.br (okR (jf [(.s (gS (vu [(.s x0),(.s x1),(.s x3),(.s x4)]) 0)),(.s x2)])) (.leaf (0,[(.b (ile (gI (jf [(.s (gS (vu [(.s x0),(.s x1),(.s x3),(.s x4)]) 0)),(.s x2)]) 0) 0))])) .fail) .fail):=by kernel_rfl
theorem q3y (x0:List UInt8) (x1:List UInt8) (x2:List UInt8) (x3:List UInt8) (x4:List UInt8):uh [.s x0,.s x1,.s x2,.s x3,.s x4]=(.br (okR (zz [(.s x0),(.s x1),(.s x2)])) (.br (ine (gI (zz [(.s x0),(.s x1),(.s x2)]) 0) 0) (.leaf (0,[(.b false),(.i (gI (zz [(.s x0),(.s x1),(.s x2)]) 0))])) (.br (okR (v8 [(.s x3)])) (.br (ine (gI (v8 [(.s x3)]) 0) 0) (.leaf (0,[(.b false),(.i (gI (v8 [(.s x3)]) 0))])) (.br (okR (v8 [(.s x4)])) (.br (ine (gI (v8 [(.s x4)]) 0) 0) (.leaf (0,[(.b false),(.i (gI (v8 [(.s x4)]) 0))])) (.br (okR (q6w [(.s x0),(.s x1),(.s x2),(.s x3),(.s x4)])) (.leaf (0,[(.b (gB (q6w [(.s x0),(.s x1),(.s x2),(.s x3),(.s x4)]) 0)),(.i 0)])) .fail)) .fail)) .fail)) .fail):=by kernel_rfl
theorem qfl (x0:List UInt8) (x1:List UInt8) (x2:List UInt8) (x3:List UInt8) (x4:List UInt8):uo [.s x0,.s x1,.s x2,.s x3,.s x4]=(.br (okR (va [(.s x0),(.s x1),(.s x2)])) (.br (not (gB (va [(.s x0),(.s x1),(.s x2)]) 0)) (.br (okR (qS [])) (.leaf (0,[(.b (gB (qS []) 0))])) .fail) (.br (ilt 12 (qF x3)) (.br (okR (qS [])) (.leaf (0,[(.b (gB (qS []) 0))])) .fail) (.br (ilt 12 (qF x4)) (.br (okR (qS [])) (.leaf (0,[(.b (gB (qS []) 0))])) .fail) (.br (okR (ya [(.s x0),(.s x1),(.s x2),(.s x3),(.s x4)])) (.br (okR (uh [(.s x0),(.s x1),(.s x2),(.s x3),(.s x4)])) (.br (okR (qS [])) (.br (gB (qS []) 0) (.br (beq (gB (ya [(.s x0),(.s x1),(.s x2),(.s x3),(.s x4)]) 0) (gB (uh [(.s x0),(.s x1),(.s x2),(.s x3),(.s x4)]) 0)) (.leaf (0,[(.b (ieq (gI (ya [(.s x0),(.s x1),(.s x2),(.s x3),(.s x4)]) 1) (gI (uh [(.s x0),(.s x1),(.s x2),(.s x3),(.s x4)]) 1)))])) (.leaf (0,[(.b false)]))) (.leaf (0,[(.b false)]))) .fail) .fail) .fail)))) .fail):=by kernel_rfl
theorem qfg (x0:R) (x1:Int) (x2:Int) (x3:Int):uP [.r x0,.i x1,.i x2,.i x3]=(.br (okR (zl [(.r x0)])) (.br (ine (gI (zl [(.r x0)]) 0) 0) (.leaf (0,[(.b false),(.i (gI (zl [(.r x0)]) 0))])) (.br (ilt x1 0) (.leaf (0,[(.b false),(.i 2)])) (.br (ile (qH x0) x1) (.leaf (0,[(.b false),(.i 2)])) (.br (ilt x2 0) (.leaf (0,[(.b false),(.i 2)])) (.br (ile (qH x0) x2) (.leaf (0,[(.b false),(.i 2)])) (.br (ilt x2 x1) (.leaf (0,[(.b false),(.i 9)])) (.br (ilt x3 (-1)) (.leaf (0,[(.b false),(.i 1)])) (.br (ilt 1 x3) (.leaf (0,[(.b false),(.i 1)])) (.br (okR (qU [(.r x0),(.i x1),(.i x2),(.i x3),(.i 0)])) (.leaf (0,[(.b (gB (qU [(.r x0),(.i x1),(.i x2),(.i x3),(.i 0)]) 0)),(.i (gI (qU [(.r x0),(.i x1),(.i x2),(.i x3),(.i 0)]) 1))])) .fail))))))))) .fail):=by kernel_rfl
theorem quJ (x0:Int) (x1:Int) (x2:Int):vU [.i x0,.i x1,.i x2]=(.leaf (0,[(.i x0),(.i x1),(.i x2)])):=by kernel_rfl
theorem qcV (y0:R) (y1:Int) (y2:Int) (y3:Int) (y4:Int) (y5:Int) (y6:R):zj [.r y0,.i y1,.i y2,.i y3,.i y4,.i y5,.r y6]=(.br (ilt y2 y1) (.br (inb y2 (qH y6)) (.br (ilt (cI y6 y2 0) 0) (.leaf (2,[(.b false),(.i 2)])) (.br (ile (qH y0) (cI y6 y2 0)) (.leaf (2,[(.b false),(.i 2)])) (.leaf (0,[(.r y0),(.i y1),(.i (qw .i64 y2 1)),(.i y3),(.i y4),(.i y5),(.r y6)])))) .fail) (.leaf (1,[(.r y0),(.i y3),(.i y4),(.i y5)]))):=by kernel_rfl
theorem qga (x0:R) (x1:Int) (x2:Int) (x3:Int):uL [.r x0,.i x1,.i x2,.i x3]=(.br (okR (zQ [(.r x0)])) (.br (ine (gI (zQ [(.r x0)]) 0) 0) (.leaf (0,[(.b false),(.i (gI (zQ [(.r x0)]) 0))])) (.br (okR (qg zj [(.r x0),(.i (qH [[(.i x1)],[(.i x2)]])),(.i 0),(.i x1),(.i x2),(.i x3),(.r [[(.i x1)],[(.i x2)]])])) (.br (jIs (qg zj [(.r x0),(.i (qH [[(.i x1)],[(.i x2)]])),(.i 0),(.i x1),(.i x2),(.i x3),(.r [[(.i x1)],[(.i x2)]])]) 0) (.br (ilt (gI (qg zj [(.r x0),(.i (qH [[(.i x1)],[(.i x2)]])),(.i 0),(.i x1),(.i x2),(.i x3),(.r [[(.i x1)],[(.i x2)]])]) 2) (gI (qg zj [(.r x0),(.i (qH [[(.i x1)],[(.i x2)]])),(.i 0),(.i x1),(.i x2),(.i x3),(.r [[(.i x1)],[(.i x2)]])]) 1)) (.leaf (0,[(.b false),(.i 9)])) (.br (ilt (gI (qg zj [(.r x0),(.i (qH [[(.i x1)],[(.i x2)]])),(.i 0),(.i x1),(.i x2),(.i x3),(.r [[(.i x1)],[(.i x2)]])]) 3) (-1)) (.leaf (0,[(.b false),(.i 1)])) (.br (ilt 1 (gI (qg zj [(.r x0),(.i (qH [[(.i x1)],[(.i x2)]])),(.i 0),(.i x1),(.i x2),(.i x3),(.r [[(.i x1)],[(.i x2)]])]) 3)) (.leaf (0,[(.b false),(.i 1)])) (.br (okR (we [(.r (gR (qg zj [(.r x0),(.i (qH [[(.i x1)],[(.i x2)]])),(.i 0),(.i x1),(.i x2),(.i x3),(.r [[(.i x1)],[(.i x2)]])]) 0)),(.i (gI (qg zj [(.r x0),(.i (qH [[(.i x1)],[(.i x2)]])),(.i 0),(.i x1),(.i x2),(.i x3),(.r [[(.i x1)],[(.i x2)]])]) 1)),(.i (gI (qg zj [(.r x0),(.i (qH [[(.i x1)],[(.i x2)]])),(.i 0),(.i x1),(.i x2),(.i x3),(.r [[(.i x1)],[(.i x2)]])]) 2)),(.i (gI (qg zj [(.r x0),(.i (qH [[(.i x1)],[(.i x2)]])),(.i 0),(.i x1),(.i x2),(.i x3),(.r [[(.i x1)],[(.i x2)]])]) 3))])) (.leaf (0,[(.b (gB (we [(.r (gR (qg zj [(.r x0),(.i (qH [[(.i x1)],[(.i x2)]])),(.i 0),(.i x1),(.i x2),(.i x3),(.r [[(.i x1)],[(.i x2)]])]) 0)),(.i (gI (qg zj [(.r x0),(.i (qH [[(.i x1)],[(.i x2)]])),(.i 0),(.i x1),(.i x2),(.i x3),(.r [[(.i x1)],[(.i x2)]])]) 1)),(.i (gI (qg zj [(.r x0),(.i (qH [[(.i x1)],[(.i x2)]])),(.i 0),(.i x1),(.i x2),(.i x3),(.r [[(.i x1)],[(.i x2)]])]) 2)),(.i (gI (qg zj [(.r x0),(.i (qH [[(.i x1)],[(.i x2)]])),(.i 0),(.i x1),(.i x2),(.i x3),(.r [[(.i x1)],[(.i x2)]])]) 3))]) 0)),(.i 0)])) .fail)))) (.leaf (0,[(.b (gB (qg zj [(.r x0),(.i (qH [[(.i x1)],[(.i x2)]])),(.i 0),(.i x1),(.i x2),(.i x3),(.r [[(.i x1)],[(.i x2)]])]) 0)),(.i (gI (qg zj [(.r x0),(.i (qH [[(.i x1)],[(.i x2)]])),(.i 0),(.i x1),(.i x2),(.i x3),(.r [[(.i x1)],[(.i x2)]])]) 1))]))) .fail)) .fail):=by kernel_rfl
theorem qhl (x0:R) (x1:Int) (x2:Int) (x3:Int):uY [.r x0,.i x1,.i x2,.i x3]=(.br (okR (u6 [(.r x0)])) (.br (not (gB (u6 [(.r x0)]) 0)) (.br (okR (qS [])) (.leaf (0,[(.b (gB (qS []) 0))])) .fail) (.br (okR (vU [(.i x1),(.i x2),(.i x3)])) (.br (okR (uP [(.r x0),(.i (gI (vU [(.i x1),(.i x2),(.i x3)]) 0)),(.i (gI (vU [(.i x1),(.i x2),(.i x3)]) 1)),(.i (gI (vU [(.i x1),(.i x2),(.i x3)]) 2))])) (.br (okR (uL [(.r x0),(.i x1),(.i x2),(.i x3)])) (.br (okR (qS [])) (.br (gB (qS []) 0) (.br (beq (gB (uP [(.r x0),(.i (gI (vU [(.i x1),(.i x2),(.i x3)]) 0)),(.i (gI (vU [(.i x1),(.i x2),(.i x3)]) 1)),(.i (gI (vU [(.i x1),(.i x2),(.i x3)]) 2))]) 0) (gB (uL [(.r x0),(.i x1),(.i x2),(.i x3)]) 0)) (.leaf (0,[(.b (ieq (gI (uP [(.r x0),(.i (gI (vU [(.i x1),(.i x2),(.i x3)]) 0)),(.i (gI (vU [(.i x1),(.i x2),(.i x3)]) 1)),(.i (gI (vU [(.i x1),(.i x2),(.i x3)]) 2))]) 1) (gI (uL [(.r x0),(.i x1),(.i x2),(.i x3)]) 1)))])) (.leaf (0,[(.b false)]))) (.leaf (0,[(.b false)]))) .fail) .fail) .fail) .fail)) .fail):=by kernel_rfl
theorem qeM (y0:R) (y1:Int) (y2:Int):jE [.r y0,.i y1,.i y2]=(.br (ilt y2 (qH y0)) (.br (inb y1 (qH y0)) (.br (inb y2 (qH y0)) (.br (okR (zP [(.r [[(.s (cS y0 y1 0)),(.s (cS y0 y1 1)),(.s (cS y0 y1 2))],[(.s (cS y0 y2 0)),(.s (cS y0 y2 1)),(.s (cS y0 y2 2))]])])) (.br (not (gB (zP [(.r [[(.s (cS y0 y1 0)),(.s (cS y0 y1 1)),(.s (cS y0 y1 2))],[(.s (cS y0 y2 0)),(.s (cS y0 y2 1)),(.s (cS y0 y2 2))]])]) 3)) (.leaf (2,[(.r [[(.i y1)],[(.i y2)]])])) (.leaf (0,[(.r y0),(.i y1),(.i (qw .i64 y2 1))]))) .fail) .fail) .fail) (.leaf (1,[(.r y0),(.i y1)]))):=by kernel_rfl
theorem qeO (y0:R) (y1:Int):j4 [.r y0,.i y1]=(.br (ilt y1 (qH y0)) (.br (okR (qg jE [(.r y0),(.i y1),(.i (qw .i64 y1 1))])) (.br (jIs (qg jE [(.r y0),(.i y1),(.i (qw .i64 y1 1))]) 0) (.leaf (0,[(.r (gR (qg jE [(.r y0),(.i y1),(.i (qw .i64 y1 1))]) 0)),(.i (qw .i64 (gI (qg jE [(.r y0),(.i y1),(.i (qw .i64 y1 1))]) 1) 1))])) (.leaf (2,[(.r (gR (qg jE [(.r y0),(.i y1),(.i (qw .i64 y1 1))]) 0))]))) .fail) (.leaf (1,[(.r y0)]))):=by kernel_rfl
theorem qcK (y0:R) (y1:Int) (y2:Int) (y3:Int):vF [.r y0,.i y1,.i y2,.i y3]=(.br (ilt y3 (qH y0)) (.br (inb y1 (qH y0)) (.br (inb y2 (qH y0)) (.br (inb y3 (qH y0)) (.br (okR (zP [(.r [[(.s (cS y0 y1 0)),(.s (cS y0 y1 1)),(.s (cS y0 y1 2))],[(.s (cS y0 y2 0)),(.s (cS y0 y2 1)),(.s (cS y0 y2 2))],[(.s (cS y0 y3 0)),(.s (cS y0 y3 1)),(.s (cS y0 y3 2))]])])) (.br (not (gB (zP [(.r [[(.s (cS y0 y1 0)),(.s (cS y0 y1 1)),(.s (cS y0 y1 2))],[(.s (cS y0 y2 0)),(.s (cS y0 y2 1)),(.s (cS y0 y2 2))],[(.s (cS y0 y3 0)),(.s (cS y0 y3 1)),(.s (cS y0 y3 2))]])]) 3)) (.leaf (2,[(.r [[(.i y1)],[(.i y2)],[(.i y3)]])])) (.leaf (0,[(.r y0),(.i y1),(.i y2),(.i (qw .i64 y3 1))]))) .fail) .fail) .fail) .fail) (.leaf (1,[(.r y0),(.i y1),(.i y2)]))):=by kernel_rfl
theorem qcJ (y0:R) (y1:Int) (y2:Int):jd [.r y0,.i y1,.i y2]=(.br (ilt y2 (qH y0)) (.br (okR (qg vF [(.r y0),(.i y1),(.i y2),(.i (qw .i64 y2 1))])) (.br (jIs (qg vF [(.r y0),(.i y1),(.i y2),(.i (qw .i64 y2 1))]) 0) (.leaf (0,[(.r (gR (qg vF [(.r y0),(.i y1),(.i y2),(.i (qw .i64 y2 1))]) 0)),(.i (gI (qg vF [(.r y0),(.i y1),(.i y2),(.i (qw .i64 y2 1))]) 1)),(.i (qw .i64 (gI (qg vF [(.r y0),(.i y1),(.i y2),(.i (qw .i64 y2 1))]) 2) 1))])) (.leaf (2,[(.r (gR (qg vF [(.r y0),(.i y1),(.i y2),(.i (qw .i64 y2 1))]) 0))]))) .fail) (.leaf (1,[(.r y0),(.i y1)]))):=by kernel_rfl
theorem qcL (y0:R) (y1:Int):u7 [.r y0,.i y1]=(.br (ilt y1 (qH y0)) (.br (okR (qg jd [(.r y0),(.i y1),(.i (qw .i64 y1 1))])) (.br (jIs (qg jd [(.r y0),(.i y1),(.i (qw .i64 y1 1))]) 0) (.leaf (0,[(.r (gR (qg jd [(.r y0),(.i y1),(.i (qw .i64 y1 1))]) 0)),(.i (qw .i64 (gI (qg jd [(.r y0),(.i y1),(.i (qw .i64 y1 1))]) 1) 1))])) (.leaf (2,[(.r (gR (qg jd [(.r y0),(.i y1),(.i (qw .i64 y1 1))]) 0))]))) .fail) (.leaf (1,[]))):=by kernel_rfl
theorem qrZ (x0:R):q39 [.r x0]=(.br (okR (qg j4 [(.r x0),(.i 0)])) (.br (jIs (qg j4 [(.r x0),(.i 0)]) 0) (.br (okR (qg u7 [(.r (gR (qg j4 [(.r x0),(.i 0)]) 0)),(.i 0)])) (.br (jIs (qg u7 [(.r (gR (qg j4 [(.r x0),(.i 0)]) 0)),(.i 0)]) 0) (.leaf (0,[(.r [])])) (.leaf (0,[(.r (gR (qg u7 [(.r (gR (qg j4 [(.r x0),(.i 0)]) 0)),(.i 0)]) 0))]))) .fail) (.leaf (0,[(.r (gR (qg j4 [(.r x0),(.i 0)]) 0))]))) .fail):=by kernel_rfl
theorem q6a (x0:R):ww [.r x0]=(.br (okR (zQ [(.r x0)])) (.br (ine (gI (zQ [(.r x0)]) 0) 0) (.leaf (0,[(.r []),(.i (gI (zQ [(.r x0)]) 0))])) (.br (okR (q39 [(.r x0)])) (.leaf (0,[(.r (gR (q39 [(.r x0)]) 0)),(.i 0)])) .fail)) .fail):=by kernel_rfl
theorem q2I (y0:R) (y1:Int) (y2:R) (y3:Int) (y4:Int) (y5:R) (y6:Int) (y7:Int) (y8:Int) (y9:R) (y10:List UInt8) (y11:List UInt8) (y12:List UInt8):zF [.r y0,.i y1,.r y2,.i y3,.i y4,.r y5,.i y6,.i y7,.i y8,.r y9,.s y10,.s y11,.s y12]=(.br (ilt y7 y6) (.br (inb y7 (qH y5)) (.br (ine y7 y1) (.br (okR (qM [(.s (cS y5 y7 0)),(.s (cS y5 y7 1)),(.s (cS y5 y7 2)),(.s y10),(.s y11),(.s y12),(.i y8)])) (.br (gB (qM [(.s (cS y5 y7 0)),(.s (cS y5 y7 1)),(.s (cS y5 y7 2)),(.s y10),(.s y11),(.s y12),(.i y8)]) 0) (.br (ilt y7 y1) (.br (ile ((qH y9)+(qH [[(.i y1)]])) 17592186044416) (.leaf (1,[(.r y0),(.r y2),(.i y3),(.i y4),(.i (gI (qM [(.s (cS y5 y7 0)),(.s (cS y5 y7 1)),(.s (cS y5 y7 2)),(.s y10),(.s y11),(.s y12),(.i y8)]) 1)),(.r (qgA y9 [[(.i y1)]]))])) .fail) (.br (okR (qM [(.s y10),(.s y11),(.s y12),(.s (cS y5 y7 0)),(.s (cS y5 y7 1)),(.s (cS y5 y7 2)),(.i (gI (qM [(.s (cS y5 y7 0)),(.s (cS y5 y7 1)),(.s (cS y5 y7 2)),(.s y10),(.s y11),(.s y12),(.i y8)]) 1))])) (.br (not (gB (qM [(.s y10),(.s y11),(.s y12),(.s (cS y5 y7 0)),(.s (cS y5 y7 1)),(.s (cS y5 y7 2)),(.i (gI (qM [(.s (cS y5 y7 0)),(.s (cS y5 y7 1)),(.s (cS y5 y7 2)),(.s y10),(.s y11),(.s y12),(.i y8)]) 1))]) 0)) (.br (ile ((qH y9)+(qH [[(.i y1)]])) 17592186044416) (.leaf (1,[(.r y0),(.r y2),(.i y3),(.i y4),(.i (gI (qM [(.s y10),(.s y11),(.s y12),(.s (cS y5 y7 0)),(.s (cS y5 y7 1)),(.s (cS y5 y7 2)),(.i (gI (qM [(.s (cS y5 y7 0)),(.s (cS y5 y7 1)),(.s (cS y5 y7 2)),(.s y10),(.s y11),(.s y12),(.i y8)]) 1))]) 1)),(.r (qgA y9 [[(.i y1)]]))])) .fail) (.leaf (0,[(.r y0),(.i y1),(.r y2),(.i y3),(.i y4),(.r y5),(.i y6),(.i (qw .i64 y7 1)),(.i (gI (qM [(.s y10),(.s y11),(.s y12),(.s (cS y5 y7 0)),(.s (cS y5 y7 1)),(.s (cS y5 y7 2)),(.i (gI (qM [(.s (cS y5 y7 0)),(.s (cS y5 y7 1)),(.s (cS y5 y7 2)),(.s y10),(.s y11),(.s y12),(.i y8)]) 1))]) 1)),(.r y9),(.s y10),(.s y11),(.s y12)]))) .fail)) (.leaf (0,[(.r y0),(.i y1),(.r y2),(.i y3),(.i y4),(.r y5),(.i y6),(.i (qw .i64 y7 1)),(.i (gI (qM [(.s (cS y5 y7 0)),(.s (cS y5 y7 1)),(.s (cS y5 y7 2)),(.s y10),(.s y11),(.s y12),(.i y8)]) 1)),(.r y9),(.s y10),(.s y11),(.s y12)]))) .fail) (.leaf (0,[(.r y0),(.i y1),(.r y2),(.i y3),(.i y4),(.r y5),(.i y6),(.i (qw .i64 y7 1)),(.i y8),(.r y9),(.s y10),(.s y11),(.s y12)]))) .fail) (.leaf (1,[(.r y0),(.r y2),(.i y3),(.i y4),(.i y8),(.r y9)]))):=by kernel_rfl
theorem q8o (y0:R) (y1:R) (y2:Int) (y3:Int) (y4:Int) (y5:R):wY [.r y0,.r y1,.i y2,.i y3,.i y4,.r y5]=(.br (ilt y3 y2) (.br (inb y3 (qH y1)) (.br (okR (qg zF [(.r y0),(.i y3),(.r y1),(.i y2),(.i y3),(.r y0),(.i (qH y0)),(.i 0),(.i y4),(.r y5),(.s (cS y1 y3 0)),(.s (cS y1 y3 1)),(.s (cS y1 y3 2))])) (.leaf (0,[(.r (gR (qg zF [(.r y0),(.i y3),(.r y1),(.i y2),(.i y3),(.r y0),(.i (qH y0)),(.i 0),(.i y4),(.r y5),(.s (cS y1 y3 0)),(.s (cS y1 y3 1)),(.s (cS y1 y3 2))]) 0)),(.r (gR (qg zF [(.r y0),(.i y3),(.r y1),(.i y2),(.i y3),(.r y0),(.i (qH y0)),(.i 0),(.i y4),(.r y5),(.s (cS y1 y3 0)),(.s (cS y1 y3 1)),(.s (cS y1 y3 2))]) 1)),(.i (gI (qg zF [(.r y0),(.i y3),(.r y1),(.i y2),(.i y3),(.r y0),(.i (qH y0)),(.i 0),(.i y4),(.r y5),(.s (cS y1 y3 0)),(.s (cS y1 y3 1)),(.s (cS y1 y3 2))]) 2)),(.i (qw .i64 (gI (qg zF [(.r y0),(.i y3),(.r y1),(.i y2),(.i y3),(.r y0),(.i (qH y0)),(.i 0),(.i y4),(.r y5),(.s (cS y1 y3 0)),(.s (cS y1 y3 1)),(.s (cS y1 y3 2))]) 3) 1)),(.i (gI (qg zF [(.r y0),(.i y3),(.r y1),(.i y2),(.i y3),(.r y0),(.i (qH y0)),(.i 0),(.i y4),(.r y5),(.s (cS y1 y3 0)),(.s (cS y1 y3 1)),(.s (cS y1 y3 2))]) 4)),(.r (gR (qg zF [(.r y0),(.i y3),(.r y1),(.i y2),(.i y3),(.r y0),(.i (qH y0)),(.i 0),(.i y4),(.r y5),(.s (cS y1 y3 0)),(.s (cS y1 y3 1)),(.s (cS y1 y3 2))]) 5))])) .fail) .fail) (.leaf (1,[(.i y4),(.r y5)]))):=by kernel_rfl
theorem qbm (x0:R):vJ [.r x0]=(.br (okR (zl [(.r x0)])) (.br (ine (gI (zl [(.r x0)]) 0) 0) (.leaf (0,[(.r []),(.i (gI (zl [(.r x0)]) 0))])) (.br (okR (qg wY [(.r x0),(.r x0),(.i (qH x0)),(.i 0),(.i 0),(.r [])])) (.br (ine (gI (qg wY [(.r x0),(.r x0),(.i (qH x0)),(.i 0),(.i 0),(.r [])]) 0) 0) (.leaf (0,[(.r []),(.i (gI (qg wY [(.r x0),(.r x0),(.i (qH x0)),(.i 0),(.i 0),(.r [])]) 0))])) (.leaf (0,[(.r (gR (qg wY [(.r x0),(.r x0),(.i (qH x0)),(.i 0),(.i 0),(.r [])]) 1)),(.i 0)]))) .fail)) .fail):=by kernel_rfl
theorem qcw (y0:R) (y1:Int) (y2:Bool) (y3:Int) (y4:R):zC [.r y0,.i y1,.b y2,.i y3,.r y4]=(.br (ilt y3 (qH y0)) (.br y2 (.leaf (0,[(.r y0),(.i y1),(.b true),(.i (qw .i64 y3 1)),(.r y4)])) (.br (ine y3 y1) (.br (inb y3 (qH y0)) (.br (inb y1 (qH y0)) (.br (okR (wC [(.s (cS y0 y3 0)),(.s (cS y0 y3 1)),(.s (cS y0 y3 2)),(.s (cS y0 y1 0)),(.s (cS y0 y1 1)),(.s (cS y0 y1 2))])) (.br (gB (wC [(.s (cS y0 y3 0)),(.s (cS y0 y3 1)),(.s (cS y0 y3 2)),(.s (cS y0 y1 0)),(.s (cS y0 y1 1)),(.s (cS y0 y1 2))]) 0) (.br (ilt y3 y1) (.leaf (0,[(.r y0),(.i y1),(.b true),(.i (qw .i64 y3 1)),(.r y4)])) (.br (inb y1 (qH y0)) (.br (inb y3 (qH y0)) (.br (okR (wC [(.s (cS y0 y1 0)),(.s (cS y0 y1 1)),(.s (cS y0 y1 2)),(.s (cS y0 y3 0)),(.s (cS y0 y3 1)),(.s (cS y0 y3 2))])) (.leaf (0,[(.r y0),(.i y1),(.b (not (gB (wC [(.s (cS y0 y1 0)),(.s (cS y0 y1 1)),(.s (cS y0 y1 2)),(.s (cS y0 y3 0)),(.s (cS y0 y3 1)),(.s (cS y0 y3 2))]) 0))),(.i (qw .i64 y3 1)),(.r y4)])) .fail) .fail) .fail)) (.leaf (0,[(.r y0),(.i y1),(.b false),(.i (qw .i64 y3 1)),(.r y4)]))) .fail) .fail) .fail) (.leaf (0,[(.r y0),(.i y1),(.b false),(.i (qw .i64 y3 1)),(.r y4)])))) (.leaf (1,[(.r y0),(.i y1),(.b y2),(.r y4)]))):=by kernel_rfl
theorem qeR (y0:R) (y1:Int) (y2:R):uZ [.r y0,.i y1,.r y2]=(.br (ilt y1 (qH y0)) (.br (okR (qg zC [(.r y0),(.i y1),(.b false),(.i 0),(.r y2)])) (.br (gB (qg zC [(.r y0),(.i y1),(.b false),(.i 0),(.r y2)]) 2) (.br (ile ((qH (gR (qg zC [(.r y0),(.i y1),(.b false),(.i 0),(.r y2)]) 3))+(qH [[(.i (gI (qg zC [(.r y0),(.i y1),(.b false),(.i 0),(.r y2)]) 1))]])) 17592186044416) (.leaf (0,[(.r (gR (qg zC [(.r y0),(.i y1),(.b false),(.i 0),(.r y2)]) 0)),(.i (qw .i64 (gI (qg zC [(.r y0),(.i y1),(.b false),(.i 0),(.r y2)]) 1) 1)),(.r (qgA (gR (qg zC [(.r y0),(.i y1),(.b false),(.i 0),(.r y2)]) 3) [[(.i (gI (qg zC [(.r y0),(.i y1),(.b false),(.i 0),(.r y2)]) 1))]]))])) .fail) (.leaf (0,[(.r (gR (qg zC [(.r y0),(.i y1),(.b false),(.i 0),(.r y2)]) 0)),(.i (qw .i64 (gI (qg zC [(.r y0),(.i y1),(.b false),(.i 0),(.r y2)]) 1) 1)),(.r (gR (qg zC [(.r y0),(.i y1),(.b false),(.i 0),(.r y2)]) 3))]))) .fail) (.leaf (1,[(.r y2)]))):=by kernel_rfl
theorem qsa (x0:R):q36 [.r x0]=(.br (okR (qg uZ [(.r x0),(.i 0),(.r [])])) (.leaf (0,[(.r (gR (qg uZ [(.r x0),(.i 0),(.r [])]) 0))])) .fail):=by kernel_rfl
theorem qbo (x0:R):vK [.r x0]=(.br (okR (zQ [(.r x0)])) (.br (ine (gI (zQ [(.r x0)]) 0) 0) (.leaf (0,[(.r []),(.i (gI (zQ [(.r x0)]) 0))])) (.br (okR (q36 [(.r x0)])) (.leaf (0,[(.r (gR (q36 [(.r x0)]) 0)),(.i 0)])) .fail)) .fail):=by kernel_rfl
theorem qaE (y0:R) (y1:R) (y2:Int):jL [.r y0,.r y1,.i y2]=(.br (ilt y2 (qH y0)) (.br (inb y2 (qH y0)) (.br (inb y2 (qH y1)) (.br (ine (cI y0 y2 0) (cI y1 y2 0)) (.leaf (2,[(.b false)])) (.leaf (0,[(.r y0),(.r y1),(.i (qw .i64 y2 1))]))) .fail) .fail) (.leaf (1,[]))):=by kernel_rfl
theorem qlZ (x0:R) (x1:R):jX [.r x0,.r x1]=(.br (ine (qH x0) (qH x1)) (.leaf (0,[(.b false)])) (.br (okR (qg jL [(.r x0),(.r x1),(.i 0)])) (.br (jIs (qg jL [(.r x0),(.r x1),(.i 0)]) 0) (.leaf (0,[(.b true)])) (.leaf (0,[(.b (gB (qg jL [(.r x0),(.r x1),(.i 0)]) 0))]))) .fail)):=by kernel_rfl
theorem qcq (x0:R):jN [.r x0]=(.br (okR (u6 [(.r x0)])) (.br (not (gB (u6 [(.r x0)]) 0)) (.br (okR (qS [])) (.leaf (0,[(.b (gB (qS []) 0))])) .fail) (.br (okR (zy [(.r x0)])) (.br (okR (ww [(.r x0)])) (.br (okR (vJ [(.r x0)])) (.br (okR (vK [(.r x0)])) (.br (okR (qS [])) (.br (gB (qS []) 0) (.br (okR (jX [(.r (gR (zy [(.r x0)]) 0)),(.r (gR (ww [(.r x0)]) 0))])) (.br (gB (jX [(.r (gR (zy [(.r x0)]) 0)),(.r (gR (ww [(.r x0)]) 0))]) 0) (.br (ieq (gI (zy [(.r x0)]) 1) (gI (ww [(.r x0)]) 1)) (.br (okR (jX [(.r (gR (vJ [(.r x0)]) 0)),(.r (gR (vK [(.r x0)]) 0))])) (.br (gB (jX [(.r (gR (vJ [(.r x0)]) 0)),(.r (gR (vK [(.r x0)]) 0))]) 0) (.leaf (0,[(.b (ieq (gI (vJ [(.r x0)]) 1) (gI (vK [(.r x0)]) 1)))])) (.leaf (0,[(.b false)]))) .fail) (.leaf (0,[(.b false)]))) (.leaf (0,[(.b false)]))) .fail) (.leaf (0,[(.b false)]))) .fail) .fail) .fail) .fail) .fail)) .fail):=by kernel_rfl
end Go.Eng

namespace Go.Eng
mutual
def qgL {H:Type}:DataW H→List U
 | .lit (.bool b)=>[.b b]
 | .lit (.int _ n)=>[.i n]
 | .lit (.string s)=>[.s s]
 | .nil=>[.l []]
 | .slice es _=>[.l (qwc es)]
 | .agg ps=>qzk ps
 | _=>[.i 0]
def qzk {H:Type}:List (DataW H)→List U
 | []=>[]
 | d :: l=>qgL d++qzk l
def qwc {H:Type}:List (DataW H)→List (List U)
 | []=>[]
 | d :: l=>qgL d :: qwc l
end
theorem qgS {H:Type}:∀ l:List (DataW H),qwc l=l.map qgL
 | []=>rfl
 | d :: l=>by simp [qwc,qgS l]
inductive UFit:Sh→U→Prop
 | int (k:IntKind) (n:Int) (h0:k.min≤n) (h1:n≤k.max):UFit (.int k) (.i n)
 | bool (b:Bool):UFit .bool (.b b)
 | str (s:List UInt8) (h:s.length≤maxLen):UFit .str (.s s)
 | sl (row:List Sh) (l:R) (h:l.length≤maxLen) (hl:∀ r,r ∈ l→r.length=row.length) (hf:∀ (r:List U) (j:Nat) (s:Sh) (u:U),r ∈ l→row[j]?=some s→r[j]?=some u→UFit s u):UFit (.sl row) (.l l)
inductive CR (W:World) (M:Nat→Prop):List Sh→List U→List Value→Prop
 | nil:CR W M [] [] []
 | cons {s:Sh} {u:U} {v:Value} {sh:List Sh} {us:List U} {vs:List Value} (h:RepU W M s u v) (f:UFit s u) (t:CR W M sh us vs):CR W M (s :: sh) (u :: us) (v :: vs)
theorem CR.append {W:World} {M:Nat→Prop} {a a':List Sh} {b b':List U} {c c':List Value} (h:CR W M a b c) (k:CR W M a' b' c'):CR W M (a++a') (b++b') (c++c'):=by
 induction h with
 | nil=>exact k
 | cons h f t ih=>exact .cons h f ih
theorem CR.len {W:World} {M:Nat→Prop} {a:List Sh} {b:List U} {c:List Value} (h:CR W M a b c):b.length=a.length∧c.length=a.length:=by
 induction h with
 | nil=>exact ⟨rfl,rfl⟩
 | cons h f t ih=>simp [ih.1,ih.2]
theorem CR.get {W:World} {M:Nat→Prop} {a:List Sh} {b:List U} {c:List Value} (h:CR W M a b c):∀ (j:Nat) (s:Sh),a[j]?=some s→∃ u v,b[j]?=some u∧c[j]?=some v∧RepU W M s u v∧UFit s u:=by
 induction h with
 | nil=>intro j s hj;simp at hj
 | cons h f t ih=>
  intro j s hj
  cases j with
  | zero=>simp at hj;subst hj;exact ⟨_,_,rfl,rfl,h,f⟩
  | succ j=>simpa using ih j s (by simpa using hj)
def qtj:Nat→List (Nat × TypeId × Nat)→Bool
 | _,[]=>true
 | o,f :: l=>Nat.beq f.1 o&&qtj (o+f.2.2) l
def qzC:List (Nat × TypeId × Nat)→Nat
 | []=>0
 | f :: l=>f.2.2+qzC l
def qp8 (x:TI):Bool:=match x.d with
 | .struct fs=>qtj 0 fs&&Nat.beq (qzC fs) x.size
 | .array n _ es=>Nat.beq (n*es) x.size
 | .slice _ es=>Nat.blt 0 es
 | _=>true
theorem qC1 {E:Env} (h:E.tt.all (fun x=>qp8 x.2)=true) (t:TypeId):qp8 (E.ty t)=true:=by
 unfold Env.ty
 cases hf:E.tt.find? fun x=>x.1==t with
 | none=>rfl
 | some x=>exact List.all_eq_true.1 h x (List.mem_of_find?_eq_some hf)
section
variable {H:Type} {enc:TypeId × Value→H} {P:Program} {W:World} {base:Nat} {sp:Nat→Bool} {held:Bool} {E:Env}
theorem qsU {M:Nat→Prop} {fuel n:Nat} {cs:List Value} (ih:∀ t cs d ps sh,E.shape n t=some sh→DataW.trod enc P W base sp held fuel t cs=some (d,ps)→CR W M sh (qgL d) cs) :
  ∀ (fs:List (Nat × TypeId × Nat)) (o:Nat) (xs:List (DataW H × List MemPlace)) (shs:List (List Sh)),qtj o fs=true→o+qzC fs=cs.length→fs.mapM (fun f=>E.shape n f.2.1)=some shs →
   xs.length=fs.length→(∀ (i:Nat) (f:Nat × TypeId × Nat),fs[i]?=some f→DataW.trod enc P W base sp held fuel f.2.1 ((cs.drop f.1).take f.2.2)=xs[i]?) →
   CR W M shs.flatten (qzk (xs.map (·.1))) (cs.drop o)
 | [],o,xs,shs,_,hs,hsh,hl,_=>by
  simp [qzC] at hs hsh hl
  subst hsh hl
  have:cs.drop o=[]:=List.drop_eq_nil_of_le (by omega)
  rw [this]
  exact .nil
 | f :: fs,o,xs,shs,hlay,hs,hsh,hl,hx=>by
  simp only [qtj,Bool.and_eq_true] at hlay
  obtain ⟨h1,h2⟩:=hlay
  have ho:f.1=o:=Nat.eq_of_beq_eq_true h1
  simp only [qzC] at hs
  rw [List.mapM_cons] at hsh
  cases hsf:E.shape n f.2.1 with
  | none=>rw [hsf] at hsh;cases hsh
  | some shf=>
   cases hrest:fs.mapM (fun f=>E.shape n f.2.1) with
   | none=>rw [hsf,hrest] at hsh;cases hsh
   | some shr=>
    rw [hsf,hrest] at hsh
    cases hsh
    cases xs with
    | nil=>simp at hl
    | cons x xs=>
     have h0:=hx 0 f rfl
     simp only [List.getElem?_cons_zero] at h0
     have c1:=ih f.2.1 _ x.1 x.2 shf hsf h0
     rw [ho] at c1
     have c2:=qsU (cs:=cs) (M:=M) (fuel:=fuel) ih fs (o+f.2.2) xs shr h2 (by omega) hrest (by simpa using hl) fun i g hg=>by
      have:=hx (i+1) g (by simpa using hg)
      simpa using this
     have hsplit:cs.drop o=(cs.drop o).take f.2.2++cs.drop (o+f.2.2):=by
      rw [← List.drop_drop,List.take_append_drop]
     rw [hsplit]
     simp only [List.flatten_cons,List.map_cons,qzk]
     exact c1.append c2
theorem qvw {M:Nat→Prop} {fuel n es:Nat} {e:TypeId} {cs:List Value} {she:List Sh} (he:E.shape n e=some she)
  (ih:∀ t cs d ps sh,E.shape n t=some sh→DataW.trod enc P W base sp held fuel t cs=some (d,ps)→CR W M sh (qgL d) cs) :
  ∀ (m o:Nat) (xs:List (DataW H × List MemPlace)),(o+m)*es=cs.length→xs.length=m→(∀ i,i<m→DataW.trod enc P W base sp held fuel e ((cs.drop ((o+i)*es)).take es)=xs[i]?) →
   CR W M (List.replicate m she).flatten (qzk (xs.map (·.1))) (cs.drop (o*es))
 | 0,o,xs,hs,hl,_=>by
  simp at hl hs;subst hl
  have:cs.drop (o*es)=[]:=List.drop_eq_nil_of_le (by omega)
  rw [this]
  exact .nil
 | m+1,o,xs,hs,hl,hx=>by
  cases xs with
  | nil=>simp at hl
  | cons x xs=>
   have h0:=hx 0 (by omega)
   simp only [List.getElem?_cons_zero,Nat.add_zero] at h0
   have c1:=ih e _ x.1 x.2 she he h0
   have c2:=qvw (cs:=cs) he ih m (o+1) xs (by rw [← hs];congr 1;omega) (by simpa using hl) fun i hi=>by
    have:=hx (i+1) (by omega)
    rw [show o+(i+1)=o+1+i by omega] at this
    simpa using this
   have hsplit:cs.drop (o*es)=(cs.drop (o*es)).take es++cs.drop ((o+1)*es):=by
    rw [Nat.add_mul,Nat.one_mul,← List.drop_drop,List.take_append_drop]
   rw [hsplit]
   simp only [List.replicate_succ,List.flatten_cons,List.map_cons,qzk]
   exact c1.append c2
theorem qxP (hE:E.tok P) (hlay:E.tt.all (fun x=>qp8 x.2)=true):∀ (fuel n:Nat) (t:TypeId) (cs:List Value) (d:DataW H) (ps:List MemPlace) (sh:List Sh),E.shape n t=some sh →
  DataW.trod enc P W base sp held fuel t cs=some (d,ps)→CR W (fun b=>b<W.heap.size) sh (qgL d) cs:=by
 intro fuel
 induction fuel with
 | zero=>intro n t cs d ps sh _ h;simp [DataW.trod] at h
 | succ fuel ih=>
  intro n t cs d ps sh hsh h
  cases n with
  | zero=>simp [Env.shape] at hsh
  | succ n=>
   simp only [Env.shape] at hsh
   have hl:=qC1 hlay t
   unfold qp8 at hl
   cases hd:(E.ty t).d <;> rw [hd] at hsh hl <;> simp only at hsh hl <;> try (cases hsh)
   ·
    unfold DataW.trod at h
    rw [qoO hE hd] at h
    split at h <;> simp_all
    obtain ⟨rfl,_⟩:=h
    exact .cons (.bool (.b _)) (.bool _) .nil
   ·
    rename_i k
    unfold DataW.trod at h
    rw [qqH hE hd] at h
    split at h <;> simp_all
    obtain ⟨⟨rfl,hw⟩,rfl,_⟩:=h
    simp [Lit.wf] at hw
    exact .cons (.int _ (.i _)) (.int _ _ hw.1 hw.2) .nil
   ·
    unfold DataW.trod at h
    rw [qhQ hE hd] at h
    split at h <;> simp_all
    rename_i s
    obtain ⟨hm,rfl,_⟩:=h
    refine .cons ?_ (.str _ (by simpa using hm)) .nil
    have:=RepU.str (w:=W) (M:=fun b=>b<W.heap.size) (.s s.data.toList)
    simpa [U.toS] using this
   ·
    rename_i e es
    obtain ⟨ht,rfl⟩:=q3q hE hd
    cases he:E.shape n e with
    | none=>rw [he] at hsh;cases hsh
    | some she=>
     rw [he] at hsh
     cases hsh
     have hpos:0<P.cellsOf e:=by simpa [Nat.blt_eq] using hl
     rcases DataW.trod_slice ht h with ⟨rfl,hx⟩ | ⟨a,len,cap,elems,rest,k,hk,rfl,hx,hb,hlc,hcm,hlen,hel,_,_⟩
     ·cases hx
      exact .cons (.slnil _ _ rfl) (.sl _ _ (by simp [maxLen]) (fun r hr=>by cases hr) (fun r j s u hr=>by cases hr)) .nil
     ·cases hx
      cases hk
      have hrow:∀ (i:Nat) (hi:i<len),∃ cs',W.cells? base (a.add (i*P.cellsOf e)) (P.cellsOf e)=some cs'∧CR W (fun b=>b<W.heap.size) she (qgL (elems[i]'(by omega)).1) cs':=by
       intro i hi
       have h0:=hel i hi
       rw [List.getElem?_eq_getElem (by omega)] at h0
       obtain ⟨cs',g1,g2⟩:=Option.bind_eq_some_iff.1 h0
       exact ⟨cs',g1,ih n e cs' _ _ she he g2⟩
      have hget:∀ (r:Nat) (hr:r<len),(((elems.map (·.1)).map qgL).getD r []:List U)=qgL (elems[r]'(by omega)).1:=by
       intro r hr
       simp [List.getD_eq_getElem?_getD,hlen,hr]
      have hcell:∀ (r j:Nat) (s:Sh) (hr:r<len),she[j]?=some s→∃ v,W.cell? ⟨a.block,a.off+r*she.length+j,none⟩=some v∧RepU W (fun b=>b<W.heap.size) s (jA (qwc (elems.map (·.1))) r j) v∧UFit s ((qgL (elems[r]'(by omega)).1).getD j (.i 0))∧a.spot=none∧a.block<W.heap.size:=by
       intro r j s hr hj
       obtain ⟨cs',g1,g2⟩:=hrow r hr
       obtain ⟨_,g4,g5⟩:=World.cells?_some g1
       obtain ⟨q1,q2⟩:=g2.len
       obtain ⟨u,v,e1,e2,e3,e4⟩:=g2.get j s hj
       have hlen:she.length=P.cellsOf e:=by rw [← q2,g4]
       have hjl:j<P.cellsOf e:=by rw [← hlen];exact zu hj
       have hc:=(g5 j hjl).trans e2
       have h00:=g5 0 hpos
       obtain ⟨cs0,z1,z2⟩:=hrow 0 (by omega)
       obtain ⟨_,z4,z5⟩:=World.cells?_some z1
       have hz:=z5 0 hpos
       obtain ⟨v0,hv0⟩:∃ v0,cs0[0]?=some v0:=⟨cs0[0],List.getElem?_eq_getElem (by omega)⟩
       rw [hv0] at hz
       simp only [Nat.zero_mul,Addr.add,if_true] at hz
       have hspot:=World.cell?_spot hz
       refine ⟨v,?_,?_,?_,hspot,World.block_lt_of_cell? _ _ hz⟩
       ·rw [← hc,Addr.add_of hspot,Addr.add_lit,hlen]
       ·have:jA (qwc (elems.map (·.1))) r j=u:=by
         rw [qgS]
         unfold jA
         rw [Int.toNat_natCast,hget r hr]
         simp [List.getD_eq_getElem?_getD,e1]
        rw [this];exact e3
       ·simp [List.getD_eq_getElem?_getD,e1];exact e4
      have hrl:(qwc (elems.map (·.1))).length=len:=by rw [qgS];simp [hlen]
      have hsh0:0<len→0<she.length:=by
       intro hl0
       obtain ⟨cs',g1,g2⟩:=hrow 0 hl0
       obtain ⟨_,g4,_⟩:=World.cells?_some g1
       rw [← g2.len.2,g4];exact hpos
      refine .cons ?_ (.sl _ _ (by rw [hrl];omega) ?_ ?_) .nil
      ·have hR:=qe8 (w:=W) (M:=fun b=>b<W.heap.size) (row:=she) (l:=qwc (elems.map (·.1))) (v:=.slice (some a) len cap) (.inr ⟨a,cap,by rw [hrl],fun h0=>by
        rw [hrl] at h0
        obtain ⟨_,_,_,_,h4,_⟩:=hcell 0 0 she[0] h0 (List.getElem?_eq_getElem (hsh0 h0))
        exact h4,by rw [hrl];exact hlc,fun r j hj hr=>by
        rw [hrl] at hr
        obtain ⟨v,h1,h2,_,_,h5⟩:=hcell r j she[j] hr (List.getElem?_eq_getElem hj)
        exact ⟨h5,v,h1,h2⟩⟩)
       exact hR
      ·intro r hr
       rw [qgS] at hr
       obtain ⟨i,hi⟩:=List.getElem?_of_mem hr
       have hil:i<len:=by have:=zu hi;simpa [hlen] using this
       have:r=qgL (elems[i]'(by omega)).1:=by
        rw [← hget i hil,List.getD_eq_getElem?_getD,hi];rfl
       obtain ⟨cs',g1,g2⟩:=hrow i hil
       rw [this];exact g2.len.1
      ·intro r j s u hr hs hu
       rw [qgS] at hr
       obtain ⟨i,hi⟩:=List.getElem?_of_mem hr
       have hil:i<len:=by have:=zu hi;simpa [hlen] using this
       have:r=qgL (elems[i]'(by omega)).1:=by
        rw [← hget i hil,List.getD_eq_getElem?_getD,hi];rfl
       subst this
       obtain ⟨_,_,_,h3,_⟩:=hcell i j s hil hs
       simpa [List.getD_eq_getElem?_getD,hu] using h3
   ·
    rename_i m e es
    obtain ⟨ht,rfl⟩:=qbe hE hd
    cases he:E.shape n e with
    | none=>rw [he] at hsh;cases hsh
    | some she=>
     rw [he] at hsh
     cases hsh
     obtain ⟨xs,m0,hf,hx,hcl,hxl,hel⟩:=DataW.trod_array ht h
     cases hf
     cases hx
     have hsz:m*P.cellsOf e=cs.length:=by
      rw [hcl]
      have h1:=Nat.eq_of_beq_eq_true hl
      obtain ⟨_,i,dd,h2,_,_,h4,_⟩:=q1W hE (t:=t) (by rw [hd];rfl)
      rw [h1,h4]
      unfold Program.cellsOf
      rw [h2];rfl
     have:=qvw (cs:=cs) he (fun t cs d ps sh h1 h2=>ih n t cs d ps sh h1 h2) m 0 xs (by simpa using hsz) hxl (fun i hi=>by simpa using hel i hi)
     simpa [qgL] using this
   ·
    rename_i fs
    obtain ⟨fields,ht,rfl⟩:=q7a hE hd
    cases hm:(fields.toList.map fun f=>(f.offset,f.type,P.cellsOf f.type)).mapM fun f=>E.shape n f.2.1 with
    | none=>rw [hm] at hsh;cases hsh
    | some shs=>
     rw [hm] at hsh
     cases hsh
     obtain ⟨xs,m0,hf,hx,hcl,hxl,hel⟩:=DataW.trod_struct ht h
     cases hf
     cases hx
     simp only [Bool.and_eq_true] at hl
     have hsz:qzC (fields.toList.map fun f=>(f.offset,f.type,P.cellsOf f.type))=cs.length:=by
      rw [hcl]
      have h1:=Nat.eq_of_beq_eq_true hl.2
      obtain ⟨_,i,dd,h2,_,_,h4,_⟩:=q1W hE (t:=t) (by rw [hd];rfl)
      rw [h1,h4]
      unfold Program.cellsOf
      rw [h2];rfl
     have:=qsU (cs:=cs) (fun t cs d ps sh h1 h2=>ih n t cs d ps sh h1 h2) _ 0 xs shs hl.1 (by simpa using hsz) hm (by simpa using hxl) (fun i f hf=>by
      rw [List.getElem?_map] at hf
      cases hfi:fields.toList[i]? with
      | none=>rw [hfi] at hf;cases hf
      | some g=>
       rw [hfi] at hf
       cases hf
       exact hel i g (by simpa using hfi))
     simpa [qgL] using this
end
end Go.Eng

namespace Go.Eng
open Go.RowKit
inductive UFits:List Sh→List U→Prop
 | nil:UFits [] []
 | cons {s:Sh} {u:U} {sh:List Sh} {us:List U} (h:UFit s u) (t:UFits sh us):UFits (s :: sh) (u :: us)
theorem CR.fits {W:World} {M:Nat→Prop} {a:List Sh} {b:List U} {c:List Value} (h:CR W M a b c):UFits a b:=by
 induction h with
 | nil=>exact .nil
 | cons h f t ih=>exact .cons f ih
def q8r:List Sh→List U→List AV
 | .int k :: sh,u :: us=>.int k u.toI :: q8r sh us
 | .bool :: sh,u :: us=>.bool u.toB :: q8r sh us
 | .str :: sh,u :: us=>.str u.toS :: q8r sh us
 | .sl row :: sh,u :: us=>.imm row u.toR :: q8r sh us
 | _,_=>[]
theorem qyN {X:Ctx} {sh:List Sh} {us:List U} {vs:List Value} (h:CR X.w X.M sh us vs):RepL X (q8r sh us) vs:=by
 induction h with
 | nil=>exact .nil
 | cons h f t ih=>
  rename_i s u v sh us vs
  cases s with
  | int k=>cases h;exact .cons (.int _ _) ih
  | bool=>cases h;exact .cons (.bool _) ih
  | str=>cases h;exact .cons (.str _) ih
  | sl row=>exact .cons (.imm _ _ _ (qk4 h)) ih
def qlF (agg:Bool) (sh:List Sh) (us:List U):AV:=match agg with
 | true=>.agg (q8r sh us)
 | false=>(q8r sh us).headD .undef
section
variable {H:Type} {enc:TypeId × Value→H} {P:Program} {W:World} {base:Nat} {sp:Nat→Bool} {held:Bool} {E:Env}
theorem qfy (hE:E.tok P) (hlay:E.tt.all (fun x=>qp8 x.2)=true) {X:Ctx} (hw:X.w=W) (hM:X.M=fun b=>b<W.heap.size) {r:Reach} {b0:Nat} {n:Nat} {t:TypeId} {v:Value} {d:DataW H} {ps:List MemPlace} {sh:List Sh}
  (hsh:E.shape n t=some sh) (hv:Value.okWide P W r b0 t v) (hd:DataW.Trod enc P W base sp held t v d ps):UFits sh (qgL d)∧Rep X (qlF (E.ty t).d.isAgg sh (qgL d)) v:=by
 obtain ⟨fuel,hf⟩:=hd
 have hc:=qxP hE hlay fuel n t _ d ps sh hsh hf
 refine ⟨hc.fits,?_⟩
 have hr:RepL X (q8r sh (qgL d)) v.cells.toList:=qyN (by rw [hw,hM];exact hc)
 have hone:∀ (_:(E.ty t).d.isAgg=false),v.cells=#[v]→Rep X (qlF (E.ty t).d.isAgg sh (qgL d)) v:=by
  intro ha hcell
  rw [ha]
  rw [hcell] at hr
  simp only [qlF]
  generalize q8r sh (qgL d)=l at hr
  cases hr with
  | cons h1 h2=>simpa using h1
 unfold Value.okWide at hv
 cases n with
 | zero=>simp [Env.shape] at hsh
 | succ n=>
  simp only [Env.shape] at hsh
  cases hd:(E.ty t).d <;> rw [hd] at hsh hone <;> simp only at hsh <;> try (cases hsh)
  ·rw [qoO hE hd] at hv
   refine hone rfl ?_
   cases v <;> simp [Cell.okWide,qoO hE hd,Cell.ok] at hv <;> rfl
  ·rw [qqH hE hd] at hv
   refine hone rfl ?_
   cases v <;> simp [Cell.okWide,qqH hE hd,Cell.ok] at hv <;> rfl
  ·rw [qhQ hE hd] at hv
   refine hone rfl ?_
   cases v <;> simp [Cell.okWide,qhQ hE hd,Cell.ok] at hv <;> rfl
  ·rw [(q3q hE hd).1] at hv
   refine hone rfl ?_
   cases v <;> simp [Cell.okWide,(q3q hE hd).1,Cell.ok] at hv <;> rfl
  ·rw [(qbe hE hd).1] at hv
   obtain ⟨cs,rfl,_,_⟩:=hv
   simp only [TD.isAgg,qlF]
   exact .agg _ _ (by simpa [Value.cells] using hr)
  ·obtain ⟨fields,ht,_⟩:=q7a hE hd
   rw [ht] at hv
   obtain ⟨cs,rfl,_,_⟩:=hv
   simp only [TD.isAgg,qlF]
   exact .agg _ _ (by simpa [Value.cells] using hr)
end
theorem qmK {H:Type} {enc:TypeId × Value→H} {P:Program} {W:World} {base:Nat} {sp:Nat→Bool} {held:Bool} {ts:List TypeId} {ds:List (DataW H)} (h:(DataW.weightsEach P ts ds).all (·≤reachBytes)=true)
  (j:Nat) {t e:TypeId} {v:Value} {d:DataW H} {ps:List MemPlace} {x:R} {b:Nat} (ht:ts[j]?=some t) (hd:ds[j]?=some d) (hu:P.underlying t=some (.slice e)) (hb:P.bytesOf e=b)
  (htr:DataW.Trod enc P W base sp held t v d ps) (hx:[.l x]=qgL d):x.length*b≤140737488351232:=by
 have he:x.length=0∨∃ es spr,d=.slice es spr∧x.length=es.length:=by
  obtain ⟨fuel,hf⟩:=htr
  rcases DataW.trod_slice hu hf with ⟨_,hx'⟩ | ⟨_,_,_,elems,rest,_,_,_,hx',_⟩
  ·cases hx'
   simp only [qgL,List.cons.injEq,U.l.injEq,and_true] at hx
   rw [hx];exact .inl rfl
  ·cases hx'
   simp only [qgL,List.cons.injEq,U.l.injEq,and_true] at hx
   exact .inr ⟨_,_,rfl,by rw [hx,qgS];simp⟩
 rcases he with he | ⟨es,spr,rfl,he⟩
 ·rw [he];omega
 ·have:=List.all_eq_true.1 h _ (DataW.weights_mem_each ht hd ((es.length+spr.length)*P.bytesOf e) (by simp [DataW.weights,hu]))
  have h2:(es.length+spr.length)*P.bytesOf e≤reachBytes:=by simpa using this
  rw [hb] at h2
  rw [he]
  have h3:es.length*b≤(es.length+spr.length)*b:=Nat.mul_le_mul_right _ (by omega)
  have h4:reachBytes=140737488351232:=rfl
  omega
def qqV (W:World):Ctx:={ σ:=fun _=>none,h:=[],w:=W,M:=fun b=>b<W.heap.size }
def qzz (W:World):Base:={ w0:=W,imps:=[],M0:=fun b=>b<W.heap.size,fs:=[] }
theorem qFg (W:World):HSim (qzz W) (qqV W):=by
 have hno:∀ b n,¬ (qqV W).own b n:=by
  intro b n ⟨h,_⟩;cases h
 refine ⟨fun b k h=>?_,fun b b' n h=>absurd h (hno b n),fun b n h=>absurd h (hno b n),fun n h=>h,fun n h=>h,fun n h=>.inl h,rfl,rfl,rfl,Nat.le_refl _,fun _ _ _=>rfl,fun b h=>?_,fun b h=>?_,fun b n h=>absurd h (hno b n),fun p hp=>by cases hp⟩
 ·have:([]:List Blk)[b]?=some k:=h
  simp at this
 ·exact absurd h (by simp [qzz])
 ·exact absurd h (by simp [qzz])
theorem qEa (W:World):Entry (qzz W) (qqV W):=⟨rfl,rfl,fun _ h=>h⟩
theorem qfj {P:Program} {gl:List (Nat × AV)} {f:FuncId} {G:q1N} (hG:wi P gl f G) {W:World} (hgl:q7e gl (qqV W)) {args:List AV} {vargs:List Value} (ha:RepL (qqV W) args vargs)
  (h:(G args []).run=some (.bool true,[])):Calls P f vargs.toArray W fun e W'=>e=.returned (.bool true)∧Below W.heap.size W W':=by
 refine (hG.2 (qzz W) (qqV W) args vargs _ (qFg W) (qEa W) hgl ha h).mono fun e W' ⟨v,X',e1,e2,e3,e4,e5,_⟩=>?_
 subst e2
 refine ⟨?_,e5.os,e5.tape,e5.output,e5.size,fun k hk=>e5.frame k hk (by simp [qzz])⟩
 rw [e1]
 cases e3;rfl
theorem qda {i:FIn} {outs:List FOut} {T:List PV→TR} {args:List AV} {ps:List PV} (ho:outs=[{ res:=.bool,h:=[] }]) (hi:i.take args []=some ps) (hT:(T ps).run=some (0,[.b true])) :
  (qf i outs T args []).run=some (.bool true,[]):=by
 subst ho
 unfold qf
 rw [hi]
 simp only [Tree.run,okR,hT,Option.isSome_some]
 simp only [qE5,FOut.kinds,AP.kinds,BP.kindsL,List.append_nil,qnP,gB,pR,hT,List.getD_cons_zero,PV.toB,FOut.make,AP.make,BP.makeL,Tree.run]
theorem qpW {P:Program} {W:World} {E:Env} (hE:E.tok P) (hlay:E.tt.all (fun x=>qp8 x.2)=true) {name:String} {g n:Nat} {t:TypeId} {d:DataW Unit} {sh:List Sh}
  (hg:P.globalNamed name=some g) (hty:(P.globals[g]?).map (·.type)=some t) (hsh:E.shape n t=some sh) {ds:List (String × DataW Unit)} (h:laidMet P ds W) (hm:(name,d) ∈ ds) :
  qC6 (qqV W) (g,.eptr sh [qgL d] 0 0):=by
 obtain ⟨ps,hl,_⟩:=h
 have key:∀ (ds:List (String × DataW Unit)) (ps:List MemPlace),DataW.LaidVars P W ds ps→(name,d) ∈ ds→∃ cs fuel p,W.var? P name=some cs∧DataW.trod (fun _=>()) P W 0 (fun _=>true) false fuel t cs.toList=some (d,p):=by
  intro ds
  induction ds with
  | nil=>intro ps _ h;cases h
  | cons x ds ih=>
   intro ps hl hm
   obtain ⟨nm,dd⟩:=x
   obtain ⟨g',t',cs,fuel,p,q,h1,h2,h3,h4,h5,_⟩:=hl
   rcases List.mem_cons.1 hm with he | hm
   ·cases he
    obtain rfl:=Option.some.inj (hg.symm.trans h1)
    obtain rfl:=Option.some.inj (hty.symm.trans h2)
    exact ⟨cs,fuel,p,h3,h4⟩
   ·exact ih q h5 hm
 obtain ⟨cs,fuel,p,h3,h4⟩:=key ds ps hl hm
 have hc:=qxP hE hlay fuel n t _ d p sh hsh h4
 have hheap:∃ T fr,W.heap[g]?=some (.cells cs T fr):=by
  unfold World.var? at h3
  rw [hg] at h3
  simp only [Option.bind_some] at h3
  split at h3
  ·rename_i cs' T fr he
   cases h3
   exact ⟨T,fr,he⟩
  ·cases h3
 suffices hs:Rows (qqV W).w (qqV W).M sh [qgL d] ⟨g,0,none⟩ by
  refine ⟨?_,?_,?_⟩
  ·have:=Rep.eptr (X:=qqV W) sh [qgL d] 0 0 ⟨g,0,none⟩ rfl (Int.le_refl _) (by simp) hs
   simpa using this
  ·obtain ⟨T,fr,he⟩:=hheap
   exact (Array.getElem?_eq_some_iff.1 he).1
  ·have:=World.var?_cell hg h3 sh.length
   show W.cell? ⟨g,sh.length*1,none⟩=none
   rw [Nat.mul_one,this,Array.getElem?_eq_none]
   rw [← Array.length_toList,hc.len.2]
   exact Nat.le_refl _
 intro r j hj hr
 have hr0:r=0:=by simpa using hr
 subst hr0
 obtain ⟨u,v,e1,e2,e3,_⟩:=hc.get j sh[j] (List.getElem?_eq_getElem hj)
 have hcell:W.cell? ⟨g,j,none⟩=some v:=by
  have:=World.var?_cell hg h3 j
  rw [this];simpa using e2
 refine ⟨World.block_lt_of_cell? W ⟨g,j,none⟩ hcell,v,?_,?_⟩
 ·rw [Nat.zero_mul,Nat.add_zero,Nat.zero_add];exact hcell
 have:jA [qgL d] (0:Nat) j=u:=by simp [jA,List.getD_eq_getElem?_getD,e1]
 rw [this];exact e3
theorem UFits.int {k:IntKind} {sh:List Sh} {us:List U} (h:UFits (.int k :: sh) us):∃ n us',us=.i n :: us'∧k.min≤n∧n≤k.max∧UFits sh us':=by
 cases h with
 | cons h t=>cases h with
  | int k n h0 h1=>exact ⟨n,_,rfl,h0,h1,t⟩
theorem UFits.bool {sh:List Sh} {us:List U} (h:UFits (.bool :: sh) us):∃ b us',us=.b b :: us'∧UFits sh us':=by
 cases h with
 | cons h t=>cases h with
  | bool b=>exact ⟨b,_,rfl,t⟩
theorem UFits.str {sh:List Sh} {us:List U} (h:UFits (.str :: sh) us):∃ s us',us=.s s :: us'∧s.length≤maxLen∧UFits sh us':=by
 cases h with
 | cons h t=>cases h with
  | str s h0=>exact ⟨s,_,rfl,h0,t⟩
theorem UFits.sl {row sh:List Sh} {us:List U} (h:UFits (.sl row :: sh) us):∃ l us',us=.l l :: us'∧UFit (.sl row) (.l l)∧UFits sh us':=by
 cases h with
 | cons h t=>
  rename_i u us
  cases u with
  | l x=>exact ⟨x,_,rfl,h,t⟩
  | _=>cases h
theorem UFits.none {us:List U} (h:UFits [] us):us=[]:=by cases h;rfl
end Go.Eng

namespace Go.Eng
theorem qEt {α:Type} (b:Bool) (t e:Tree α):(Tree.br b t e).run=if b=true then t.run else e.run:=by cases b <;> rfl
theorem qC9 {α:Type} (a:α):(Tree.leaf a).run=some a:=rfl
theorem qCm {α:Type}:(Tree.fail:Tree α).run=none:=rfl
theorem wH {x y:Int} (h:-9223372036854775808≤x+y∧x+y≤9223372036854775807):qw .i64 x y=x+y:=by
 unfold qw IntKind.wrap
 simp [IntKind.signed,IntKind.bits];omega
theorem kd {x y:Int} (h:-9223372036854775808≤x - y∧x - y≤9223372036854775807):zi .i64 x y=x - y:=by
 unfold zi IntKind.wrap
 simp [IntKind.signed,IntKind.bits];omega
theorem qaD {x y:Int} (h:-9223372036854775808≤x*y∧x*y≤9223372036854775807):q0K .i64 x y=x*y:=by
 unfold q0K IntKind.wrap
 simp [IntKind.signed,IntKind.bits];omega
theorem qzZ (x y:Int):(ieq x y=true)=(x=y):=by simp [ieq]
theorem qE1 (x y:Int):(ine x y=true)=(x≠y):=by simp [ine]
theorem qE3 (x y:Int):(ilt x y=true)=(x<y):=by simp [ilt]
theorem qDZ (x y:Int):(ile x y=true)=(x≤y):=by simp [ile]
theorem qE2 (x y:Bool):(Go.Eng.beq x y=true)=(x=y):=by simp [Go.Eng.beq]
theorem qFa {a b A B:Int} (h1:-A≤a) (h2:a≤A) (h3:-B≤b) (h4:b≤B):-(A*B)≤a*b∧a*b≤A*B:=by
 have e1:=Int.mul_nonneg (show 0≤A - a by omega) (show 0≤B - b by omega)
 have e2:=Int.mul_nonneg (show 0≤A+a by omega) (show 0≤B+b by omega)
 have e3:=Int.mul_nonneg (show 0≤A - a by omega) (show 0≤B+b by omega)
 have e4:=Int.mul_nonneg (show 0≤A+a by omega) (show 0≤B - b by omega)
 simp only [Int.sub_mul,Int.mul_sub,Int.add_mul,Int.mul_add] at e1 e2 e3 e4
 omega
theorem qp1 {x:Int} (h:-9223372036854775807≤x∧x≤9223372036854775807):zi .i64 0 x=-x:=by
 rw [kd (by omega)];omega
theorem qtA {x:Int} (h:-9223372036854775808≤x∧x≤9223372036854775807):jU .i64 x=x:=by
 unfold jU IntKind.wrap
 simp [IntKind.signed,IntKind.bits];omega
theorem qCi (b:Bool):((!b)=true)=¬ (b=true):=by cases b <;> simp
theorem qCo (x y:Bool):(qx9 x y=true)=(x=true∧y=true):=by simp [qx9]
theorem qEh (i n:Int):(inb i n=true)=(0≤i∧i<n):=by simp [inb]
theorem qDU (i n:Int):(q7v i n=true)=(0≤i∧i≤n):=by simp [q7v]
theorem STD:(∀ (α:Type) (b:Bool) (t e:Tree α),(Tree.br b t e).run=if b=true then t.run else e.run)∧(∀ (α:Type) (a:α),(Tree.leaf a).run=some a)∧(∀ (α:Type),(Tree.fail:Tree α).run=none) ∧
  (∀ R:TR,okR R=R.run.isSome)∧(∀ (α:Type) (a:α),(some a).isSome=true)∧(∀ (R:TR) (i:Nat),gI R i=(pR R i).toI)∧(∀ (R:TR) (i:Nat),gB R i=(pR R i).toB)∧(∀ (R:TR) (i:Nat),gS R i=(pR R i).toS)∧(∀ (R:TR) (i:Nat),gR R i=(pR R i).toR) ∧
  (∀ (R:TR) (i:Nat),pR R i=R.run.elim (.i 0) fun r=>r.2.getD i (.i 0))∧(∀ (α β:Type) (b:β) (f:α→β) (a:α),(some a).elim b f=f a) ∧
  (∀ (a:PV) (l:List PV) (d:PV),(a :: l).getD 0 d=a)∧(∀ (a:PV) (l:List PV) (d:PV) (n:Nat),(a :: l).getD (n+1) d=l.getD n d) ∧
  (∀ n,(PV.i n).toI=n)∧(∀ b,(PV.b b).toB=b)∧(∀ s,(PV.s s).toS=s)∧(∀ l,(PV.r l).toR=l) ∧
  (∀ (α:Type) (h:Decidable True) (a b:α),@ite α True h a b=a)∧(∀ (α:Type) (h:Decidable False) (a b:α),@ite α False h a b=b)∧((false=true)=False)∧((true=false)=False)∧((true=true)=True) ∧
  (∀ x y,(ieq x y=true)=(x=y))∧(∀ x y,(ine x y=true)=(x≠y))∧(∀ x y,(ilt x y=true)=(x<y))∧(∀ x y,(ile x y=true)=(x≤y))∧(∀ x y,(Go.Eng.beq x y=true)=(x=y)) ∧
  (∀ x y,(qx9 x y=true)=(x=true∧y=true))∧(∀ b:Bool,((!b)=true)=¬ (b=true))∧(∀ i n,(inb i n=true)=(0≤i∧i<n))∧(∀ i n,(q7v i n=true)=(0≤i∧i≤n)) ∧
  (∀ (p:Prop) (_:Decidable p),(decide p=true)=p)∧(∀ (α:Type) (a b:α),(a≠b)=¬ (a=b))∧(¬ True)=False∧(¬ False)=True:=
 ⟨fun _=>qEt,fun _=>qC9,fun _=>qCm,fun _=>rfl,fun _ _=>rfl,fun _ _=>rfl,fun _ _=>rfl,fun _ _=>rfl,fun _ _=>rfl,fun R i=>by unfold pR;cases R.run <;> rfl,fun _ _ _ _ _=>rfl,
  fun _ _ _=>rfl,fun _ _ _ _=>rfl,fun _=>rfl,fun _=>rfl,fun _=>rfl,fun _=>rfl,fun _ _ _ _=>by simp,fun _ _ _ _=>by simp,by simp,by simp,by simp,qzZ,qE1,qE3,qDZ,qE2,
  qCo,qCi,qEh,qDU,fun _ _=>by simp,fun _ _ _=>rfl,by simp,by simp⟩
theorem zb {R:TR} {j:Nat} {ps:List PV} (h:R.run=some (j,ps)) (i:Nat):(jIs R i=true)=(j=i):=by simp [jIs,jR,h]
theorem run_bind {α β:Type} (t:Tree α) (f:α→Tree β):(t.bind f).run=t.run.bind fun a=>(f a).run:=by
 induction t with
 | leaf a=>rfl
 | br b t e iht ihe=>cases b <;> simp [Tree.bind,Tree.run,iht,ihe]
 | fail=>rfl
theorem qgQ {S:List PV→TR} {n:Nat} {ps qs:List PV} (h:(S ps).run=some (0,qs)):(qkJ S (n+1) ps).run=(qkJ S n qs).run:=by
 simp [qkJ,run_bind,h]
theorem q3X {S:List PV→TR} {n j:Nat} {ps qs:List PV} (h:(S ps).run=some (j+1,qs)):(qkJ S (n+1) ps).run=some (j,qs):=by
 simp [qkJ,run_bind,h,Tree.run]
def uW {α:Type} (f:Nat→Option α):Nat→Nat→Option α
 | _,0=>none
 | i,k+1=>match f i with
  | some a=>some a
  | none=>uW f (i+1) k
theorem qsL {S:List PV→TR} (st:Nat→List PV) (f:Nat→Option (Nat × List PV)) (fin:Nat × List PV) (n:Nat)
  (h1:∀ i,i<n→f i=none→(S (st i)).run=some (0,st (i+1))) (h2:∀ i r,i<n→f i=some r→(S (st i)).run=some (r.1+1,r.2))
  (h3:(S (st n)).run=some (fin.1+1,fin.2)):∀ (k i m:Nat),i+k=n→k<m→(qkJ S m (st i)).run=some ((uW f i k).getD fin)
 | 0,i,m,hi,hm=>by
  obtain ⟨m,rfl⟩:∃ m',m=m'+1:=⟨m - 1,by omega⟩
  have:i=n:=by omega
  subst this
  rw [q3X h3];rfl
 | k+1,i,m,hi,hm=>by
  obtain ⟨m,rfl⟩:∃ m',m=m'+1:=⟨m - 1,by omega⟩
  cases hf:f i with
  | none=>
   rw [qgQ (h1 i (by omega) hf),qsL st f fin n h1 h2 h3 k (i+1) m (by omega) (by omega)]
   simp [uW,hf]
  | some r=>
   rw [q3X (h2 i r (by omega) hf)]
   simp [uW,hf]
theorem qcv {S:List PV→TR} (st:Nat→List PV) (f:Nat→Option (Nat × List PV)) (fin:Nat × List PV) (n:Nat) (hn:n<9223372036854775808)
  (h1:∀ i,i<n→f i=none→(S (st i)).run=some (0,st (i+1))) (h2:∀ i r,i<n→f i=some r→(S (st i)).run=some (r.1+1,r.2))
  (h3:(S (st n)).run=some (fin.1+1,fin.2)):(qg S (st 0)).run=some ((uW f 0 n).getD fin):=
 qsL st f fin n h1 h2 h3 n 0 q7j (by omega) (Nat.lt_trans hn (by unfold q7j;decide))
theorem kP {S:List PV→TR} (st:Nat→List PV) (fin:Nat × List PV) (n:Nat) (hn:n<9223372036854775808)
  (h1:∀ i,i<n→(S (st i)).run=some (0,st (i+1))) (h3:(S (st n)).run=some (fin.1+1,fin.2)):(qg S (st 0)).run=some fin:=by
 have h:=qcv st (fun _=>none) fin n hn (fun i hi _=>h1 i hi) (fun i r _ h=>by cases h) h3
 have e:∀ k i,uW (fun _=>(none:Option (Nat × List PV))) i k=none:=by
  intro k;induction k with
  | zero=>intro i;rfl
  | succ k ih=>intro i;simp [uW,ih]
 rw [e] at h;exact h
theorem qqe {α:Type} {f:Nat→Option α}:∀ {k i:Nat},uW f i k=none→∀ j,i≤j→j<i+k→f j=none
 | 0,i,_,j,h1,h2=>by omega
 | k+1,i,h,j,h1,h2=>by
  simp only [uW] at h
  cases hf:f i with
  | some a=>rw [hf] at h;cases h
  | none=>
   rw [hf] at h
   rcases Nat.eq_or_lt_of_le h1 with rfl | h1
   ·exact hf
   ·exact qqe h j h1 (by omega)
theorem qsZ {α:Type} {f g:Nat→Option α}:∀ {k i:Nat},(∀ j,i≤j→j<i+k→f j=g j)→uW f i k=uW g i k
 | 0,i,_=>rfl
 | k+1,i,h=>by
  simp only [uW]
  rw [h i (by omega) (by omega),qsZ (fun j h1 h2=>h j (by omega) (by omega))]
theorem qtO {α β:Type} (g:α→β) {f:Nat→Option α}:∀ {k i:Nat},uW (fun j=>(f j).map g) i k=(uW f i k).map g
 | 0,i=>rfl
 | k+1,i=>by
  simp only [uW]
  cases f i with
  | some a=>rfl
  | none=>exact qtO g
theorem q0e {i n:Nat} (h:i<n) (hn:n<9223372036854775808):qw .i64 (i:Int) 1=((i+1:Nat):Int):=by
 rw [wH (by omega)];omega
theorem qBE {α:Type} (n:Nat):∀ i,uW (fun _=>(none:Option α)) i n=none:=by
 induction n with
 | zero=>intro i;rfl
 | succ n ih=>intro i;simp [uW,ih]
def pick (p:Nat→Bool):Nat→R
 | 0=>[]
 | n+1=>if p n then qgA (pick p n) [[.i (n:Int)]] else pick p n
theorem qol (p:Nat→Bool):∀ n,(pick p n).length≤n
 | 0=>Nat.le_refl _
 | n+1=>by
  have:=qol p n
  unfold pick;split
  ·simp [qgA];omega
  ·omega
def qqA (f:Nat→Int) (i:Nat):Option Int:=if f i=0 then none else some (f i)
theorem qAr {f:Nat→Int} {n:Nat} (h:uW (qqA f) 0 n=none) (i:Nat) (hi:i<n):f i=0:=by
 have:=qqe h i (by omega) (by omega)
 unfold qqA at this;split at this
 ·assumption
 ·cases this
theorem qtR {f:Nat→Int}:∀ {k i:Nat} {e:Int},uW (qqA f) i k=some e→e≠0
 | 0,i,e,h=>by cases h
 | k+1,i,e,h=>by
  simp only [uW] at h
  unfold qqA at h
  by_cases h0:f i=0
  ·rw [if_pos h0] at h;exact qtR h
  ·rw [if_neg h0] at h;simp at h;omega
def qgb (e:Nat→Int) (n:Nat):Int:=(uW (qqA e) 0 n).getD 0
theorem qxl {e:Nat→Int} {n:Nat} (h:qgb e n=0) (i:Nat) (hi:i<n):e i=0:=by
 unfold qgb at h
 cases hs:uW (qqA e) 0 n with
 | none=>exact qAr hs i hi
 | some x=>rw [hs] at h;exact absurd h (qtR hs)
theorem qAw {e:Nat→Int} {n:Nat} (h:∀ i,i<n→e i=0):qgb e n=0:=by
 unfold qgb
 rw [qsZ (g:=fun _=>none) (fun j _ hj=>by unfold qqA;rw [if_pos (h j (by omega))]),qBE];rfl
theorem qyq {S:List PV→TR} (st:Nat→List PV) (e:Nat→Int) (caps fin:List PV) (n:Nat) (hn:n<9223372036854775808)
  (h:∀ i,i<n→(S (st i)).run=if e i=0 then some (0,st (i+1)) else some (2,.i (e i) :: caps)) (h3:(S (st n)).run=some (1,fin)) :
  (qg S (st 0)).run=some (if qgb e n=0 then (0,fin) else (1,.i (qgb e n) :: caps)):=by
 have key:=qcv st (fun i=>(qqA e i).map fun x=>(1,PV.i x :: caps)) (0,fin) n hn (fun i hi hf=>by
  rw [h i hi];unfold qqA at hf;split at hf
  ·rename_i h0;rw [if_pos h0]
  ·simp at hf) (fun i r hi hf=>by
  rw [h i hi];unfold qqA at hf;split at hf
  ·simp at hf
  ·rename_i h0;simp at hf;rw [if_neg h0,← hf]) h3
 rw [key,qtO]
 unfold qgb
 cases hs:uW (qqA e) 0 n with
 | none=>simp
 | some x=>simp [qtR hs]
theorem qBk {p:Nat→Bool} {i n:Nat} {K:Int} (hi:i<n) (hn:(n:Int)≤K) (a:List U):qH (pick p i)+qH [a]≤K:=by
 have:=qol p i
 show ((pick p i).length:Int)+1≤_;omega
theorem qoD {l:R} {i:Nat} (h:i<l.length):(i:Int)<qH l:=by unfold qH;omega
theorem qts (l:R):¬ ((l.length:Int)<qH l):=by unfold qH;omega
theorem yq (i:Nat):(0:Int)≤(i:Int):=by omega
theorem qCa (a:List U):qH [a]=1:=rfl
end Go.Eng

namespace Go.Eng
def dch (d:Nat):UInt8:=UInt8.ofNat (48+d)
def dv (c:UInt8):Nat:=c.toNat - 48
def q57 (s:List UInt8):Prop:=∀ c,c ∈ s→48≤c.toNat∧c.toNat≤57
def val (s:List UInt8):Nat:=s.foldl (fun a c=>10*a+dv c) 0
def tNf:Nat→Nat→List UInt8
 | 0,_=>[]
 | f+1,n=>if n<10 then [dch n] else tNf f (n / 10)++[dch (n % 10)]
def tN (n:Nat):List UInt8:=tNf (n+1) n
def tI (n:Int):List UInt8:=if n<0 then 45 :: tN n.natAbs else tN n.natAbs
theorem q2Y {d:Nat} (h:d<10):(dch d).toNat=48+d:=by
 unfold dch;rw [UInt8.toNat_ofNat'];omega
theorem qni {d:Nat} (h:d<10):dv (dch d)=d:=by unfold dv;rw [q2Y h];omega
theorem qCT {c:UInt8} (h1:48≤c.toNat) (h2:c.toNat≤57):dch (dv c)=c:=by
 apply UInt8.toNat_inj.1
 rw [q2Y (by unfold dv;omega)];unfold dv;omega
theorem qjF (s:List UInt8) (c:UInt8):val (s++[c])=10*val s+dv c:=by simp [val,List.foldl_append]
theorem qpu:∀ (t:List UInt8) (a:Nat),t.foldl (fun a c=>10*a+dv c) a=a*10 ^ t.length+val t
 | [],a=>by simp [val]
 | c :: t,a=>by
  have h1:=qpu t (10*a+dv c)
  have h2:=qpu t (10*0+dv c)
  have h3:val (c :: t)=t.foldl (fun a c=>10*a+dv c) (10*0+dv c):=rfl
  rw [h3,h2,List.foldl_cons,h1,List.length_cons,Nat.pow_succ]
  grind
theorem qu2 (s t:List UInt8):val (s++t)=val s*10 ^ t.length+val t:=by
 have h:val (s++t)=t.foldl (fun a c=>10*a+dv c) (val s):=by simp [val,List.foldl_append]
 rw [h,qpu]
theorem q5L (c:UInt8) (t:List UInt8):val (c :: t)=dv c*10 ^ t.length+val t:=by
 have:=qu2 [c] t
 simpa [val] using this
theorem qee:val []=0:=rfl
theorem qwD (c:UInt8):val [c]=dv c:=by simp [val]
theorem qkT:q57 []:=fun c h=>by cases h
theorem q1d {c:UInt8} {s:List UInt8}:q57 (c :: s)↔(48≤c.toNat∧c.toNat≤57)∧q57 s:=by
 unfold q57;simp
theorem q74 {s t:List UInt8}:q57 (s++t)↔q57 s∧q57 t:=by
 unfold q57;simp only [List.mem_append]
 exact ⟨fun h=>⟨fun c hc=>h c (.inl hc),fun c hc=>h c (.inr hc)⟩,fun h c hc=>hc.elim (h.1 c) (h.2 c)⟩
theorem qz6 {c:UInt8} (h:48≤c.toNat∧c.toNat≤57):dv c<10:=by unfold dv;omega
theorem q68:∀ {s:List UInt8},q57 s→val s<10 ^ s.length
 | [],_=>by simp [val]
 | c :: s,h=>by
  obtain ⟨h1,h2⟩:=q1d.1 h
  have ih:=q68 h2
  have hd:=qz6 h1
  rw [q5L,List.length_cons,Nat.pow_succ]
  have:dv c*10 ^ s.length≤9*10 ^ s.length:=Nat.mul_le_mul_right _ (by omega)
  omega
theorem quF {d:Nat} (h:d<10):q57 [dch d]:=by
 intro c hc
 simp at hc;subst hc
 rw [q2Y h];omega
theorem qCZ:∀ (f g n:Nat),n<f→n<g→tNf f n=tNf g n
 | 0,_,n,h,_=>by omega
 | _,0,n,_,h=>by omega
 | f+1,g+1,n,h1,h2=>by
  unfold tNf
  by_cases h:n<10
  ·rw [if_pos h,if_pos h]
  ·rw [if_neg h,if_neg h,qCZ f g (n / 10) (by omega) (by omega)]
theorem qvK {n:Nat} (h:n<10):tN n=[dch n]:=by unfold tN tNf;rw [if_pos h]
theorem qwP {n:Nat} (h:10≤n):tN n=tN (n / 10)++[dch (n % 10)]:=by
 have:tN n=tNf n (n / 10)++[dch (n % 10)]:=by
  show tNf (n+1) n=_
  rw [tNf,if_neg (by omega)]
 rw [this,qCZ n (n / 10+1) (n / 10) (by omega) (by omega)];rfl
theorem quM (n:Nat):q57 (tN n)∧tN n≠[]∧val (tN n)=n:=by
 induction n using Nat.strongRecOn with
 | _ n ih=>
  by_cases h:n<10
  ·rw [qvK h];exact ⟨quF h,by simp,by rw [qwD,qni h]⟩
  ·rw [qwP (by omega)]
   obtain ⟨h1,h2,h3⟩:=ih (n / 10) (by omega)
   refine ⟨q74.2 ⟨h1,quF (by omega)⟩,by simp,?_⟩
   rw [qjF,h3,qni (by omega)];omega
theorem vz (n:Nat):q57 (tN n):=(quM n).1
theorem qpJ (n:Nat):tN n≠[]:=(quM n).2.1
theorem q1i (n:Nat):val (tN n)=n:=(quM n).2.2
theorem qht (n:Nat):0<(tN n).length:=List.length_pos_iff.2 (qpJ n)
theorem q5P:∀ (k n:Nat),n<10 ^ (k+1)→(tN n).length≤k+1
 | 0,n,h=>by rw [qvK (by simpa using h)];simp
 | k+1,n,h=>by
  by_cases h10:n<10
  ·rw [qvK h10];simp
  ·rw [qwP (by omega),List.length_append]
   have:=q5P k (n / 10) (by rw [Nat.pow_succ] at h;omega)
   simp;omega
theorem qw9:∀ (k n:Nat),10 ^ k≤n→k<(tN n).length
 | 0,n,_=>qht n
 | k+1,n,h=>by
  have hp:0<10 ^ k:=Nat.pow_pos (by omega)
  rw [Nat.pow_succ] at h
  rw [qwP (by omega),List.length_append]
  have:=qw9 k (n / 10) (by omega)
  simp;omega
theorem q42 {k n:Nat} (h:(tN n).length≤k):n<10 ^ k:=by
 have:=q68 (vz n)
 rw [q1i] at this
 exact Nat.lt_of_lt_of_le this (Nat.pow_le_pow_right (by omega) h)
def qFr (s:List UInt8):Prop:=s.length=1∨s.getD 0 0≠48
theorem qy5 {s:List UInt8} (hd:q57 s) (hn:s≠[]) (h:s.getD 0 0≠48):10 ^ (s.length - 1)≤val s:=by
 cases s with
 | nil=>exact absurd rfl hn
 | cons c s=>
  obtain ⟨h1,h2⟩:=q1d.1 hd
  simp at h
  have hc:1≤dv c:=by
   unfold dv
   have:c.toNat≠48:=fun e=>h (UInt8.toNat_inj.1 (by simpa using e))
   omega
  rw [q5L,List.length_cons,Nat.add_sub_cancel]
  have:1*10 ^ s.length≤dv c*10 ^ s.length:=Nat.mul_le_mul_right _ hc
  omega
theorem qD7:∀ (n:Nat) {s:List UInt8},s.length=n+1→q57 s→qFr s→tN (val s)=s
 | 0,s,hl,hd,_=>by
  match s,hl with
  | [c],_=>
   have h1:=(q1d.1 hd).1
   rw [qwD,qvK (qz6 h1),qCT h1.1 h1.2]
 | n+1,s,hl,hd,hz=>by
  obtain ⟨i,c,rfl⟩:∃ i c,s=i++[c]:=⟨s.dropLast,s.getLast (by intro h;simp [h] at hl),(List.dropLast_concat_getLast _).symm⟩
  have hil:i.length=n+1:=by simpa using hl
  obtain ⟨h1,h2⟩:=q74.1 hd
  have hc:=(q1d.1 h2).1
  have hi:i≠[]:=by intro h;simp [h] at hil
  have hz0:i.getD 0 0≠48:=by
   rcases hz with hz | hz
   ·exact absurd (by simpa using hz) hi
   ·cases i with
    | nil=>exact absurd rfl hi
    | cons a i=>simpa using hz
  have hv:1≤val i:=Nat.le_trans (Nat.one_le_pow _ _ (by omega)) (qy5 h1 hi hz0)
  have hd10:=qz6 hc
  rw [qjF,qwP (n:=10*val i+dv c) (by omega),show (10*val i+dv c) / 10=val i by omega,show (10*val i+dv c) % 10=dv c by omega,qCT hc.1 hc.2,qD7 n hil h1 (.inr hz0)]
theorem qpi {s:List UInt8} (hd:q57 s) (hn:s≠[]) (hz:qFr s):s=tN (val s):=
 (qD7 (s.length - 1) (by have:=List.length_pos_iff.2 hn;omega) hd hz).symm
theorem qsJ {m n:Nat} (h:tN m=tN n):m=n:=by rw [← q1i m,h,q1i]
theorem qBj (n : Nat) : qFr (tN n) := by
  induction n using Nat.strongRecOn with
  | _ n ih =>
    by_cases h : n < 10
    · rw [qvK h]; exact .inl rfl
    · rw [qwP (by omega)]
      right
      by_cases h2 : n / 10 < 10
      · rw [qvK h2]
        intro e
        have : (dch (n / 10)).toNat = 48 := by
          have e' : dch (n / 10) = 48 := by simpa using e
          rw [e']; rfl
        rw [q2Y h2] at this; omega
      · have h3 : (tN (n / 10)).length ≠ 1 := by
          have := qw9 1 (n / 10) (by omega); omega
        rcases ih (n / 10) (by omega) with h4 | h4
        · exact absurd h4 h3
        · cases hq : tN (n / 10) with
          | nil => exact absurd hq (qpJ _)
          | cons a i => rw [hq] at h4; simpa using h4
theorem qDK (t:List UInt8):slt [] t=!t.isEmpty:=by cases t <;> rfl
theorem qCO (a b:UInt8) (s t:List UInt8):slt (a :: s) (b :: t)=(decide (a<b) || (a==b&&slt s t)):=by
 unfold slt
 simp only [Op.bytesLess]
theorem qwY:∀ {s t:List UInt8},q57 s→q57 t→s.length=t.length→((slt s t=true)=(val s<val t))
 | [],[],_,_,_=>by simp [qDK,qee]
 | a :: s,b :: t,h1,h2,hl=>by
  obtain ⟨ha,hs⟩:=q1d.1 h1
  obtain ⟨hb,ht⟩:=q1d.1 h2
  have hl':s.length=t.length:=by simpa using hl
  have ih:=qwY hs ht hl'
  have v1:=q68 hs
  have v2:=q68 ht
  rw [qCO,q5L,q5L,hl']
  rw [hl'] at v1
  have hab:(a<b)=(dv a<dv b):=by
   unfold dv;rw [UInt8.lt_iff_toNat_lt];simp only [eq_iff_iff];omega
  have hab2:(a=b)=(dv a=dv b):=by
   unfold dv;rw [← UInt8.toNat_inj];simp only [eq_iff_iff];omega
  simp only [Bool.or_eq_true,decide_eq_true_eq,Bool.and_eq_true,beq_iff_eq,eq_iff_iff,ih,hab,hab2]
  generalize 10 ^ t.length=p at *
  generalize dv a=x at *
  generalize dv b=y at *
  constructor
  ·rintro (h | ⟨rfl,h⟩)
   ·have:=Nat.mul_le_mul_right p (show x+1≤y by omega)
    rw [Nat.add_mul] at this;omega
   ·omega
  ·intro h
   rcases Nat.lt_trichotomy x y with h3 | h3 | h3
   ·exact .inl h3
   ·subst h3;exact .inr ⟨rfl,by omega⟩
   ·have:=Nat.mul_le_mul_right p (show y+1≤x by omega)
    rw [Nat.add_mul] at this;omega
theorem q08 {m n:Nat} (h:m≤n):(tN m).length≤(tN n).length:=by
 rcases Nat.lt_or_ge (tN n).length (tN m).length with h1 | h1
 ·have h2:=q42 (Nat.le_refl (tN n).length)
  have h3:0<(tN n).length:=qht n
  have:=q5P ((tN n).length - 1) m (by rw [Nat.sub_add_cancel h3];omega)
  omega
 ·exact h1
theorem qxc (m n:Nat):((tN m).length<(tN n).length∨(tN m).length=(tN n).length∧slt (tN m) (tN n)=true)↔m<n:=by
 constructor
 ·rintro (h | ⟨h1,h2⟩)
  ·rcases Nat.lt_or_ge m n with h3 | h3
   ·exact h3
   ·have:=q08 h3;omega
  ·rw [qwY (vz m) (vz n) h1,q1i,q1i] at h2;exact h2
 ·intro h
  have h1:=q08 (Nat.le_of_lt h)
  rcases Nat.lt_or_ge (tN m).length (tN n).length with h3 | h3
  ·exact .inl h3
  ·have h4:(tN m).length=(tN n).length:=by omega
   exact .inr ⟨h4,by rw [qwY (vz m) (vz n) h4,q1i,q1i];exact h⟩
theorem qy3 (s:List UInt8):val (48 :: s)=val s:=by rw [q5L];simp [dv]
theorem qqB (n:Nat) (s:List UInt8):val (List.replicate n 48++s)=val s:=by
 induction n with
 | zero=>rfl
 | succ n ih=>rw [List.replicate_succ,List.cons_append,qy3,ih]
theorem qlR (n:Nat):q57 (List.replicate n 48):=by
 intro c hc
 rw [(List.mem_replicate.1 hc).2];decide
def rI (l:List Int):R:=l.map fun v=>[.i v]
theorem ql0 (l:List Int):qH (rI l)=l.length:=by simp [qH,rI]
theorem qDJ (l:List Int) (i:Int):cI (rI l) i 0=l.getD i.toNat 0:=by
 unfold cI jA rI
 simp only [List.getD_eq_getElem?_getD,List.getElem?_map]
 cases l[i.toNat]? <;> rfl
theorem qzL (x v:U):qvy [x] 0 [v]=[v]:=rfl
theorem qw6 (l:List Int) (i v:Int):qdh (rI l) i 0 [.i v]=rI (l.set i.toNat v):=by
 unfold qdh rI
 apply List.ext_getElem?
 intro j
 by_cases hj:j=i.toNat
 ·subst hj
  by_cases hl:i.toNat<l.length
  ·simp [hl,List.getD_eq_getElem?_getD,qzL]
  ·rw [List.getElem?_eq_none (by simp;omega),List.getElem?_eq_none (by simp;omega)]
 ·rw [List.getElem?_set_ne (Ne.symm hj),List.getElem?_map,List.getElem?_map,List.getElem?_set_ne (Ne.symm hj)]
theorem qiH (n v:Int):wh n [.i v]=rI (List.replicate n.toNat v):=by simp [wh,rI]
theorem qEg (l:List Int):qgg (rI l)=l.map fun v=>UInt8.ofNat v.toNat:=by
 unfold qgg rI
 rw [List.map_map]
 rfl
theorem qF1 (l:List Int) (i:Int) (s:List UInt8):qwg (rI l) i s=rI (l.take i.toNat++s.map (fun c=>(c.toNat:Int))++l.drop (i.toNat+s.length)):=by
 unfold qwg rI
 simp [List.map_take,List.map_drop]
theorem qmT (s:List UInt8):qgg (rI (s.map fun c=>(c.toNat:Int)))=s:=by
 rw [qEg,List.map_map]
 have:((fun v:Int=>UInt8.ofNat v.toNat) ∘ fun c:UInt8=>(c.toNat:Int))=id:=by
  funext c;simp
 rw [this,List.map_id]
theorem qiV {s:List UInt8} {i:Nat} (h:i<s.length):sat s (i:Int)=(s[i].toNat:Int):=by
 unfold sat
 simp [List.getD_eq_getElem?_getD,h]
theorem wc (s t:List UInt8):(seq s t=true)=(s=t):=by simp [seq]
theorem qDs {x:Int} (h:48≤x∧x≤255):zi .u8 x 48=x - 48:=by
 unfold zi IntKind.wrap
 simp [IntKind.signed,IntKind.bits];omega
theorem qst {x:Int} (h:0≤x∧x≤255):jU .u8 x=x:=by
 unfold jU IntKind.wrap
 simp [IntKind.signed,IntKind.bits];omega
theorem qos (a b:Nat):q69 (a:Int) (b:Int)=((a % b:Nat):Int):=by
 unfold q69;rw [Int.tmod_eq_emod_of_nonneg (by omega)];rfl
theorem qxX {a b:Nat} (h:a<9223372036854775808):uA .i64 (a:Int) (b:Int)=((a / b:Nat):Int):=by
 unfold uA
 rw [Int.tdiv_eq_ediv_of_nonneg (by omega)]
 have:(a:Int) / (b:Int)=((a / b:Nat):Int):=rfl
 have h2:a / b≤a:=Nat.div_le_self a b
 rw [this]
 generalize a / b=q at *
 unfold IntKind.wrap
 simp [IntKind.signed,IntKind.bits];omega
theorem yu {S:List PV→TR} (I:Nat→List PV→Prop) (Q:Nat→List PV→Prop) {n:Nat} (hn:n<9223372036854775808)
  (h:∀ k ps,k≤n→I k ps→(∃ k' qs,k'<k∧(S ps).run=some (0,qs)∧I k' qs)∨∃ j qs,(S ps).run=some (j+1,qs)∧Q j qs) {ps:List PV} (h0:I n ps):∃ j qs,(qg S ps).run=some (j,qs)∧Q j qs:=by
 have key:∀ m k ps,k≤n→k<m→I k ps→∃ j qs,(qkJ S m ps).run=some (j,qs)∧Q j qs:=by
  intro m
  induction m with
  | zero=>intro k ps _ h;omega
  | succ m ih=>
   intro k ps hk hm hI
   rcases h k ps hk hI with ⟨k',qs,h1,h2,h3⟩ | ⟨j,qs,h1,h2⟩
   ·obtain ⟨j,rs,g1,g2⟩:=ih k' qs (by omega) (by omega) h3
    exact ⟨j,rs,by rw [qgQ h2];exact g1,g2⟩
   ·exact ⟨j,qs,q3X h1,h2⟩
 exact key q7j n ps (Nat.le_refl _) (Nat.lt_trans hn (by unfold q7j;decide)) h0
end Go.Eng

namespace Go.Eng
theorem qbq {m:Int} (h:m<0):tI m=45 :: tN m.natAbs:=by unfold tI;rw [if_pos h]
theorem qiW {m:Int} (h:¬ m<0):tI m=tN m.natAbs:=by unfold tI;rw [if_neg h]
theorem q1f (n:Nat):tI (n:Int)=tN n:=by rw [qiW (by omega)];rfl
theorem qwT:tN 0=[48]:=rfl
theorem qgR {s:List UInt8} (hd:q57 s) (hn:s≠[]):∃ c t,s=c :: t∧48≤c.toNat∧c.toNat≤57:=by
 cases s with
 | nil=>exact absurd rfl hn
 | cons c t=>exact ⟨c,t,rfl,(q1d.1 hd).1⟩
theorem qv9 (m:Int):(tI m).length≤(tN m.natAbs).length+1:=by unfold tI;split <;> simp
theorem qq3 (m:Int):0<(tI m).length:=by
 have:=qht m.natAbs
 unfold tI;split <;> simp <;> omega
theorem qw4 {m n:Int} (h:tI m=tI n):m=n:=by
 have key:∀ {m n:Int},m<0→¬ n<0→tI m≠tI n:=by
  intro m n h1 h2 e
  rw [qbq h1,qiW h2] at e
  obtain ⟨c,t,hc,h3,h4⟩:=qgR (vz n.natAbs) (qpJ _)
  rw [hc] at e
  have:=(List.cons.inj e).1
  rw [← this] at h3
  exact absurd h3 (by decide)
 by_cases h1:m<0 <;> by_cases h2:n<0
 ·rw [qbq h1,qbq h2] at h
  have:=qsJ (List.cons.inj h).2
  omega
 ·exact absurd h (key h1 h2)
 ·exact absurd h.symm (key h2 h1)
 ·rw [qiW h1,qiW h2] at h
  have:=qsJ h
  omega
theorem qyh (m:Int):(sat (tI m) 0=45)=(m<0):=by
 by_cases h:m<0
 ·rw [qbq h];simp [sat,h]
 ·rw [qiW h]
  obtain ⟨c,t,hc,h3,h4⟩:=qgR (vz m.natAbs) (qpJ _)
  rw [hc]
  simp [sat,h];omega
theorem vS (m:Int):(ql [.s (tI m)]).run=some (0,[.s (tN m.natAbs)]):=by
 rw [qki]
 have hp:=qq3 m
 have hne:¬ tI m=[]:=fun h=>by rw [h] at hp;simp at hp
 have h1:(0:Int)<qF (tI m):=by unfold qF;omega
 have h2:(1:Int)≤qF (tI m):=by omega
 simp only [STD,wc,hne,h1,h2,qyh,Int.le_refl,show (0:Int)≤qF (tI m) by omega,and_self,show (0:Int)≤1 by omega]
 by_cases h:m<0
 ·rw [if_pos h,qbq h];simp [q70,qF]
 ·rw [if_neg h,qiW h]
theorem jH (m:Int):(qB [.s (tI m)]).run=some (0,[.b (decide (m<0))]):=by
 rw [qru]
 have hp:=qq3 m
 have h1:(0:Int)<qF (tI m):=by unfold qF;omega
 have h2:ieq (sat (tI m) 0) 45=decide (m<0):=by
  have:=qyh m
  by_cases h:m<0 <;> simp [ieq,h] at this ⊢ <;> exact this
 simp only [STD,h1,h2,Int.le_refl,and_self]
theorem q0B (n:Nat) (b:Bool) (hl:(tN n).length≤100000000):(qL [.s (tN n),.b b]).run=some (0,[.s (tI (if b then -(n:Int) else n))]):=by
 rw [qpE]
 have h1:qF [45]+qF (tN n)≤140737488355328:=by show (1:Int)+((tN n).length:Int)≤_;omega
 have h0:(tN n=[48])=(n=0):=by
  rw [← qwT];exact propext ⟨fun h=>qsJ h,fun h=>by rw [h]⟩
 simp only [STD,wc,h1,h0]
 cases b with
 | false=>simp [q1f]
 | true=>
  by_cases hn:n=0
  ·subst hn;simp [tI,qwT]
  ·have:(-(n:Int))<0:=by omega
   simp [hn,qbq this,q7O]
theorem qc8 (m:Int) (hl:(tN m.natAbs).length≤100000000):(zc [.s (tI m)]).run=some (0,[.s (tI (-m))]):=by
 rw [qpC]
 simp only [STD,vS,jH,q0B _ _ hl]
 have e:(if ¬ m<0 then -(m.natAbs:Int) else (m.natAbs:Int))=-m:=by
  by_cases h:m<0
  ·rw [if_neg (by simp [h])];omega
  ·rw [if_pos (by simp [h])];omega
 rw [e]
theorem q8v {s:List UInt8} {i:Nat} (h:i<s.length):val (s.take (i+1))=10*val (s.take i)+dv s[i]:=by
 rw [List.take_add_one,List.getElem?_eq_getElem h,Option.toList_some,qjF]
theorem qv7 {s:List UInt8} (h:q57 s) (i:Nat):q57 (s.take i):=fun c hc=>h c (List.mem_of_mem_take hc)
theorem qBo {s:List UInt8} (h:q57 s) (i:Nat):q57 (s.drop i):=fun c hc=>h c (List.mem_of_mem_drop hc)
theorem qgF {s:List UInt8} (h:q57 s) {i:Nat} (hi:i<s.length):48≤s[i].toNat∧s[i].toNat≤57:=h _ (List.getElem_mem hi)
theorem qwx {s:List UInt8} (h:q57 s) {i:Nat} (hi:i<s.length):jU .i64 (zi .u8 (sat s (i:Int)) 48)=(dv s[i]:Int)∧dv s[i]<10:=by
 have hd:=qgF h hi
 rw [qiV hi,qDs (by omega),qtA (by omega)]
 unfold dv;omega
theorem qi4 (m:Int) (hl:(tN m.natAbs).length≤18):(uK [.s (tI m)]).run=some (0,[.i m]):=by
 rw [qq8]
 have hd:=vz m.natAbs
 have k:=kP (S:=vG) (fun i=>[.s (tI m),.i (val ((tN m.natAbs).take i):Int),.s (tN m.natAbs),.i (i:Int)]) (0,[.s (tI m),.i (m.natAbs:Int)]) (tN m.natAbs).length (by omega) (fun i hi=>by
  rw [qcz]
  obtain ⟨e1,e2⟩:=qwx hd hi
  have hv:=q68 (qv7 hd i)
  have hv2:10 ^ ((tN m.natAbs).take i).length≤100000000000000000:=Nat.le_trans (Nat.pow_le_pow_right (n:=10) (by omega) (show _≤17 by rw [List.length_take];omega)) (by decide)
  have hv3:=Nat.lt_of_lt_of_le hv hv2
  clear hv hv2
  have hlt:(i:Int)<qF (tN m.natAbs):=by unfold qF;omega
  have e3:qw .i64 (q0K .i64 10 (val ((tN m.natAbs).take i):Int)) (dv (tN m.natAbs)[i]:Int)=((10*val ((tN m.natAbs).take i)+dv (tN m.natAbs)[i]:Nat):Int):=by
   rw [qaD (by omega),wH (by omega)];omega
  simp only [STD,hlt,yq,and_self,e1,q0e hi (by omega),q8v hi,e3]) (by
  rw [qcz]
  have:¬ ((tN m.natAbs).length:Int)<qF (tN m.natAbs):=by unfold qF;omega
  simp only [STD,this,List.take_length,q1i])
 have k':(qg vG [.s (tI m),.i 0,.s (tN m.natAbs),.i 0]).run=_:=k
 have hm:m.natAbs<1000000000000000000:=Nat.lt_of_lt_of_le (q42 hl) (by decide)
 have hneg:m<0→zi .i64 0 (m.natAbs:Int)=m:=fun h=>by rw [qp1 (by omega)];omega
 have hpos:¬ m<0→(m.natAbs:Int)=m:=fun h=>by omega
 clear hm k hd
 simp only [STD,vS,k',jH]
 by_cases h:m<0
 ·rw [if_pos h,hneg h]
 ·rw [if_neg h,hpos h]
theorem q5z (m n:Int):(z6 [.s (tI m),.s (tI n)]).run=some (0,if (tN m.natAbs).length≤18∧(tN n.natAbs).length≤18 then [.i m,.i n,.b true] else [.i 0,.i 0,.b false]):=by
 rw [qrU]
 have e:∀ t:List UInt8,(18<qF t)=¬ (t.length≤18):=fun t=>by unfold qF;simp only [eq_iff_iff];omega
 by_cases h1:(tN m.natAbs).length≤18
 ·by_cases h2:(tN n.natAbs).length≤18
  ·simp only [STD,vS,e,h1,h2,qi4 m h1,qi4 n h2,and_self]
  ·simp only [STD,vS,e,h1,h2,and_false]
 ·simp only [STD,vS,e,h1,false_and]
theorem qtz {d:Int} (h0:0≤d) (h:d<10):qgg [[.i (jU .u8 (qw .i64 48 d))]]=[dch d.toNat]:=by
 rw [wH (by omega),qst (by omega)]
 show [UInt8.ofNat (48+d).toNat]=[UInt8.ofNat (48+d.toNat)]
 rw [show (48+d).toNat=48+d.toNat by omega]
theorem qAq {S:List PV→TR} (hS:∀ (y0:Int) (y1:List UInt8),S [.i y0,.s y1]=(.br (ilt 9 y0) (.br (ile ((qF (qgg [[(.i (jU .u8 (qw .i64 48 (q69 y0 10))))]]))+(qF y1)) 140737488355328) (.leaf (0,[(.i (uA .i64 y0 10)),(.s (q7O (qgg [[(.i (jU .u8 (qw .i64 48 (q69 y0 10))))]]) y1))])) .fail) (.leaf (1,[(.i y0),(.s y1)]))))
  (n:Nat) (hn:n<9223372036854775808):∃ (a:Nat) (r:List UInt8),(qg S [.i (n:Int),.s []]).run=some (0,[.i (a:Int),.s r])∧a<10∧tN n=tN a++r:=by
 have hlen:(tN n).length≤19:=q5P 18 n (by omega)
 obtain ⟨j,qs,h1,h2⟩:=yu (S:=S) (fun k ps=>∃ (r:List UInt8),ps=[.i (k:Int),.s r]∧tN n=tN k++r) (fun j qs=>∃ (a:Nat) (r:List UInt8),j=0∧qs=[.i (a:Int),.s r]∧a<10∧tN n=tN a++r) hn (fun k ps hk ⟨r,hps,ht⟩=>by
  subst hps
  by_cases h9:k<10
  ·right
   have:¬ (9:Int)<(k:Int):=by omega
   exact ⟨0,_,by rw [hS];simp only [STD,this],k,r,rfl,rfl,h9,ht⟩
  ·left
   have h9':(9:Int)<(k:Int):=by omega
   have hr:q69 (k:Int) 10=((k % 10:Nat):Int):=qos k 10
   have hq:uA .i64 (k:Int) 10=((k / 10:Nat):Int):=qxX (b:=10) (by omega)
   have hd:qgg [[(.i (jU .u8 (qw .i64 48 (q69 (k:Int) 10))))]]=[dch (k % 10)]:=by
    rw [hr,qtz (by omega) (by omega)];rfl
   have hrl:r.length≤19:=by
    have:=congrArg List.length ht
    rw [List.length_append] at this;omega
   have hle:qF [dch (k % 10)]+qF r≤140737488355328:=by
    show (1:Int)+(r.length:Int)≤_;omega
   refine ⟨k / 10,[.i ((k / 10:Nat):Int),.s ([dch (k % 10)]++r)],by omega,?_,_,rfl,?_⟩
   ·rw [hS];simp only [STD,h9',hd,hq,hle];rfl
   ·rw [ht,qwP (by omega),List.append_assoc]) (ps:=[.i (n:Int),.s []]) ⟨[],rfl,by simp⟩
 obtain ⟨a,r,rfl,rfl,h3,h4⟩:=h2
 exact ⟨a,r,h1,h3,h4⟩
theorem qBP {a:Nat} {r:List UInt8} (ha:a<10):q7O (qgg [[(.i (jU .u8 (qw .i64 48 (a:Int))))]]) r=tN a++r:=by
 rw [qtz (by omega) (by omega),qvK ha];rfl
theorem of_le {a:Nat} {r:List UInt8} (ha:a<10) (hr:r.length≤1000):qF (qgg [[(.i (jU .u8 (qw .i64 48 (a:Int))))]])+qF r≤140737488355328:=by
 rw [qtz (by omega) (by omega)]
 show (1:Int)+(r.length:Int)≤_;omega
theorem qD3 {x:Int} (h1:-9223372036854775808<x) (h2:x≤9223372036854775807):zi .i64 0 x=-x:=qp1 (by omega)
theorem qEl (n:Nat) (hn:n<9223372036854775808):(kt [.i (n:Int)]).run=some (0,[.s (tN n)])∧(wX [.i (n:Int)]).run=some (0,[.s (tN n)]):=by
 obtain ⟨a,r,h1,h2,h3⟩:=qAq qs7 n hn
 obtain ⟨a',r',h1',h2',h3'⟩:=qAq qtk n hn
 have hlen:(tN n).length≤19:=q5P 18 n (by omega)
 have hr:r.length≤1000:=by have:=congrArg List.length h3;rw [List.length_append] at this;omega
 have hr':r'.length≤1000:=by have:=congrArg List.length h3';rw [List.length_append] at this;omega
 have hneg:zi .i64 0 (n:Int)=-(n:Int):=qD3 (by omega) (by omega)
 have h0:((n:Int)=-(n:Int))=(n=0):=by simp only [eq_iff_iff];omega
 have hlt:¬ (n:Int)<0:=by omega
 have hz:((n:Int)=0)=(n=0):=by simp only [eq_iff_iff];omega
 constructor
 ·rw [qv8]
  simp only [STD,hneg,h0,hz,hlt,h1,qBP h2,of_le h2 hr,← h3]
  by_cases h:n=0 <;> simp [h]
 ·rw [qqz]
  simp only [STD,hneg,h0,hz,hlt,h1',qBP h2',of_le h2' hr',← h3']
  by_cases h:n=0 <;> simp [h]
theorem q3g (n:Int) (h1:-9223372036854775808<n) (h2:n≤9223372036854775807):(wX [.i n]).run=some (0,[.s (tI n)]):=by
 by_cases h:n<0
 ·obtain ⟨a,ha⟩:∃ a:Nat,n=-(a:Int):=⟨n.natAbs,by omega⟩
  subst ha
  have hneg:zi .i64 0 (-(a:Int))=(a:Int):=by rw [qD3 (by omega) (by omega)];omega
  have hlen:(tN a).length≤19:=q5P 18 a (by omega)
  have ht:=qc8 (a:Int) (by simp;omega)
  rw [q1f] at ht
  rw [qqz]
  have e1:¬ (-(a:Int)=(a:Int)):=by omega
  simp only [STD,hneg,h,e1,(qEl a (by omega)).1,ht]
 ·obtain ⟨a,rfl⟩:∃ a:Nat,n=(a:Int):=⟨n.toNat,by omega⟩
  rw [(qEl a (by omega)).2,q1f]
theorem qgu (m n:Nat):(yP [.s (tN m),.s (tN n)]).run=some (0,[.b (decide (m<n))]):=by
 rw [qtu]
 have h:=qxc m n
 have e1:(qF (tN m)<qF (tN n))=((tN m).length<(tN n).length):=by unfold qF;simp only [eq_iff_iff];omega
 have e2:(qF (tN m)=qF (tN n))=((tN m).length=(tN n).length):=by unfold qF;simp only [eq_iff_iff];omega
 simp only [STD,e1,e2]
 by_cases h1:(tN m).length<(tN n).length
 ·have:m<n:=h.1 (.inl h1)
  simp [h1,this]
 ·by_cases h2:(tN m).length=(tN n).length
  ·cases hs:slt (tN m) (tN n) with
   | true=>simp [h2,h.1 (.inr ⟨h2,hs⟩)]
   | false=>
    have:¬ m<n:=fun hh=>by rcases h.2 hh with h3 | ⟨_,h3⟩ <;> simp_all
    simp [h2,this]
  ·have:¬ m<n:=fun hh=>by rcases h.2 hh with h3 | ⟨h3,_⟩ <;> omega
   simp [h1,h2,this]
end Go.Eng

namespace Go.Eng
theorem qnk (s:List UInt8) (n:Nat) (h0:0<n) (hn:n≤1000000000) (hl:s.length≤n):(jy [.s s,.i (n:Int)]).run=some (0,[.s (List.replicate (n - s.length) 48++s)]):=by
 rw [quu]
 have k:=kP (S:=zK) (fun i=>[.s s,.i (n:Int),.i (i:Int),.r (rI (List.replicate i 48++List.replicate (n - i) 0))]) (0,[.s s,.i (n:Int),.r (rI (List.replicate n 48))]) n (by omega) (fun i hi=>by
  rw [qfZ]
  have h1:(i:Int)<(n:Int):=by omega
  have h2:(i:Int)<qH (rI (List.replicate i 48++List.replicate (n - i) 0)):=by rw [ql0];simp;omega
  have h3:(List.replicate i (48:Int)++List.replicate (n - i) 0).set (i:Int).toNat 48=List.replicate (i+1) 48++List.replicate (n - (i+1)) 0:=by
   rw [Int.toNat_natCast,List.set_append_right _ _ (by simp),List.length_replicate,Nat.sub_self]
   rw [show n - i=(n - (i+1))+1 by omega,List.replicate_succ,List.set_cons_zero,List.replicate_succ']
   simp
  simp only [STD,h1,h2,yq,and_self,q0e hi (by omega),qw6,h3]) (by
  rw [qfZ]
  simp only [STD,Int.lt_irrefl,Nat.sub_self,List.replicate_zero,List.append_nil])
 have k':(qg zK [.s s,.i (n:Int),.i 0,.r (rI (List.replicate n 0))]).run=some (0,[.s s,.i (n:Int),.r (rI (List.replicate n 48))]):=by simpa using k
 have e1:zi .i64 (n:Int) (qF s)=((n - s.length:Nat):Int):=by
  rw [kd (by unfold qF;omega)];unfold qF;omega
 have e2:(0:Int)≤(n:Int):=by omega
 have e3:(n:Int)≤140737488355328:=by omega
 have e4:(0:Int)<qH (rI (List.replicate n 48)):=by rw [ql0,List.length_replicate];omega
 have e5:((n - s.length:Nat):Int)≤qH (rI (List.replicate n 48)):=by rw [ql0,List.length_replicate];omega
 have e6:qF s≤qxi (qH (rI (List.replicate n 48))) ((n - s.length:Nat):Int):=by rw [ql0,List.length_replicate];unfold qxi qF;omega
 have e7:qgg (rI (List.take ((n - s.length:Nat):Int).toNat (List.replicate n 48)++s.map (fun c=>(c.toNat:Int))++List.drop (((n - s.length:Nat):Int).toNat+s.length) (List.replicate n 48)))=List.replicate (n - s.length) 48++s:=by
  rw [Int.toNat_natCast,List.take_replicate,List.drop_replicate,Nat.min_eq_left (by omega),show n - (n - s.length+s.length)=0 by omega,List.replicate_zero,List.append_nil]
  have:List.replicate (n - s.length) (48:Int)=(List.replicate (n - s.length) (48:UInt8)).map fun c=>(c.toNat:Int):=by rw [List.map_replicate];rfl
  rw [this,← List.map_append,qmT]
 simp only [STD,qiH,Int.toNat_natCast,e2,e3,and_self,k',e4,e5,e1,yq,e6,qF1]
 rw [Int.toNat_natCast] at e7
 rw [e7]
theorem qbg {s:List UInt8} (hd:q57 s) (hn:s≠[]) (hl:s.length≤1000000000):(zq [.s s]).run=some (0,[.s (tN (val s))]):=by
 rw [quI]
 obtain ⟨j,qs,h1,h2⟩:=yu (S:=q2i) (fun k ps=>∃ t:List UInt8,ps=[.s t]∧t.length=k∧q57 t∧t≠[]∧val t=val s) (fun j qs=>j=0∧qs=[.s (tN (val s))]) (n:=s.length) (by omega) (fun k ps hk ⟨t,hps,hlk,hdt,hnt,hv⟩=>by
  subst hps
  have hp:0<t.length:=List.length_pos_iff.2 hnt
  have hs0:(0:Int)<qF t:=by unfold qF;omega
  rw [qoK]
  by_cases h1:1<t.length
  ·have hs1:(1:Int)<qF t:=by unfold qF;omega
   obtain ⟨c,u,rfl⟩:∃ c u,t=c :: u:=by
    cases t with
    | nil=>exact absurd rfl hnt
    | cons c u=>exact ⟨c,u,rfl⟩
   have hsat:sat (c :: u) 0=(c.toNat:Int):=by simp [sat]
   by_cases h48:c=48
   ·left
    subst h48
    have hu:u≠[]:=by intro h;subst h;simp at h1
    refine ⟨u.length,[.s u],by simp at hlk;omega,?_,u,rfl,rfl,(q1d.1 hdt).2,hu,by rw [← hv,qy3]⟩
    have hsub:q70 (48 :: u) 1 (qF (48 :: u))=u:=by simp [q70,qF]
    have h48':(((48:UInt8).toNat:Nat):Int)=48:=rfl
    simp only [STD,hs1,hs0,hsat,h48',Int.le_refl,and_self,Int.le_of_lt hs1,Int.le_of_lt hs0,show (0:Int)≤1 by omega,hsub]
   ·right
    have hne:¬ ((c.toNat:Int)=48):=fun h=>h48 (UInt8.toNat_inj.1 (by show c.toNat=48;omega))
    refine ⟨0,[.s (c :: u)],?_,rfl,?_⟩
    ·simp only [STD,hs1,hs0,hsat,hne,Int.le_refl,and_self]
    ·rw [← hv,← qpi hdt hnt (.inr (by simpa using h48))]
  ·right
   have hs1:¬ (1:Int)<qF t:=by unfold qF;omega
   refine ⟨0,[.s t],?_,rfl,?_⟩
   ·simp only [STD,hs1]
   ·rw [← hv,← qpi hdt hnt (.inl (by omega))]) (ps:=[.s s]) ⟨s,rfl,rfl,hd,hn,rfl⟩
 obtain ⟨rfl,rfl⟩:=h2
 simp only [STD,h1]
theorem qC2 {x y:UInt8} (hx:48≤x.toNat∧x.toNat≤57) (hy:48≤y.toNat∧y.toNat≤57) (c:Nat) (hc:c≤1) (add:Bool) :
  ∃ (d:UInt8) (c':Nat),(48≤d.toNat∧d.toNat≤57)∧c'≤1∧(uG [.i x.toNat,.i y.toNat,.i (c:Int),.b add]).run=some (0,[.i d.toNat,.i (c':Int)]) ∧
   (if add then dv x+dv y+c=dv d+10*c' else dv x+10*c'=dv y+c+dv d):=by
 have ex:jU .i64 (zi .u8 (x.toNat:Int) 48)=(dv x:Int):=by rw [qDs (by omega),qtA (by omega)];unfold dv;omega
 have ey:jU .i64 (zi .u8 (y.toNat:Int) 48)=(dv y:Int):=by rw [qDs (by omega),qtA (by omega)];unfold dv;omega
 have lx:=qz6 hx
 have ly:=qz6 hy
 have mk:∀ v:Nat,v<10→((dch v).toNat:Int)=48+v:=fun v hv=>by rw [q2Y hv];omega
 rw [qoH]
 simp only [STD,ex,ey]
 cases add with
 | true=>
  simp only [STD]
  have e1:qw .i64 (qw .i64 (dv x:Int) (dv y:Int)) (c:Int)=((dv x+dv y+c:Nat):Int):=by rw [wH (x:=(dv x:Int)) (by omega),wH (by omega)];omega
  rw [e1]
  by_cases h9:9<dv x+dv y+c
  ·have h9':(9:Int)<((dv x+dv y+c:Nat):Int):=by omega
   refine ⟨dch (dv x+dv y+c - 10),1,by rw [q2Y (by omega)];omega,by omega,?_,by rw [qni (by omega)];omega⟩
   rw [if_pos h9',wH (by omega),kd (by omega),qst (by omega),mk _ (by omega)]
   rw [show (48:Int)+((dv x+dv y+c:Nat):Int) - 10=48+((dv x+dv y+c - 10:Nat):Int) by omega];rfl
  ·have h9':¬ (9:Int)<((dv x+dv y+c:Nat):Int):=by omega
   have h0:¬ ((dv x+dv y+c:Nat):Int)<0:=by omega
   refine ⟨dch (dv x+dv y+c),0,by rw [q2Y (by omega)];omega,by omega,?_,by rw [qni (by omega)];omega⟩
   rw [if_neg h9',if_neg h0,wH (by omega),qst (by omega),mk _ (by omega)];rfl
 | false=>
  simp only [STD]
  have e1:zi .i64 (zi .i64 (dv x:Int) (dv y:Int)) (c:Int)=(dv x:Int) - dv y - c:=by rw [kd (x:=(dv x:Int)) (by omega),kd (by omega)]
  rw [e1]
  have h9':¬ (9:Int)<(dv x:Int) - dv y - c:=by omega
  rw [if_neg h9']
  by_cases h0:(dv x:Int) - dv y - c<0
  ·refine ⟨dch (dv x+10 - dv y - c),1,by rw [q2Y (by omega)];omega,by omega,?_,?_⟩
   ·rw [if_pos h0,wH (x:=48) (by omega),wH (by omega),qst (by omega),mk _ (by omega)]
    rw [show (48:Int)+((dv x:Int) - dv y - c)+10=48+((dv x+10 - dv y - c:Nat):Int) by omega];rfl
   ·rw [qni (by omega)];omega
  ·refine ⟨dch (dv x - dv y - c),0,by rw [q2Y (by omega)];omega,by omega,?_,?_⟩
   ·rw [if_neg h0,wH (by omega),qst (by omega),mk _ (by omega)]
    rw [show (48:Int)+((dv x:Int) - dv y - c)=48+((dv x - dv y - c:Nat):Int) by omega];rfl
   ·rw [qni (by omega)];omega
theorem qB3 {s:List UInt8} {k:Nat} (h:k<s.length):s.drop k=s[k] :: s.drop (k+1):=(List.drop_eq_getElem_cons h)
theorem qxM {s:List UInt8} {k:Nat} (h:k<s.length):val (s.drop k)=dv s[k]*10 ^ (s.length - (k+1))+val (s.drop (k+1)):=by
 rw [qB3 h,q5L,List.length_drop]
theorem qvZ {a b : List UInt8} {n : Nat} (ha : q57 a) (hb : q57 b) (hla : a.length = n) (hlb : b.length = n) (hn : n ≤ 100000001) (add : Bool) :
    ∃ (t : List UInt8) (c : Nat), (qg yM [.s a, .s b, .b add, .i 0, .i ((n : Int) - 1), .r (rI (List.replicate n 0))]).run = some (0, [.r (rI (t.map fun c => (c.toNat : Int)))]) ∧ q57 t ∧ t.length = n ∧
      (if add then val a + val b = val t + c * 10 ^ n else val a + c * 10 ^ n = val b + val t) := by
  obtain ⟨j, qs, h1, h2⟩ := yu (S := yM) (fun k ps => ∃ (t : List UInt8) (c : Nat), ps = [.s a, .s b, .b add, .i (c : Int), .i ((k : Int) - 1), .r (rI (List.replicate k 0 ++ t.map fun c => (c.toNat : Int)))] ∧ c ≤ 1 ∧ q57 t ∧ k + t.length = n ∧
      (if add then val (a.drop k) + val (b.drop k) = val t + c * 10 ^ (n - k) else val (a.drop k) + c * 10 ^ (n - k) = val (b.drop k) + val t))
    (fun j qs => j = 0 ∧ ∃ (t : List UInt8) (c : Nat), qs = [.r (rI (t.map fun c => (c.toNat : Int)))] ∧ q57 t ∧ t.length = n ∧ (if add then val a + val b = val t + c * 10 ^ n else val a + c * 10 ^ n = val b + val t)) (n := n) (by omega) (fun k ps hk ⟨t, c, hps, hc, hdt, hlt, hrel⟩ => by
    subst hps
    rw [qny]
    cases k with
    | zero =>
      right
      have : ¬ (0 : Int) ≤ ((0 : Nat) : Int) - 1 := by omega
      refine ⟨0, [.r (rI (t.map fun c => (c.toNat : Int)))], ?_, rfl, t, c, rfl, hdt, by omega, by simpa using hrel⟩
      simp only [STD, this, List.replicate_zero, List.nil_append]
    | succ k =>
      left
      have e0 : ((k + 1 : Nat) : Int) - 1 = (k : Int) := by omega
      rw [e0]
      have hka : k < a.length := by omega
      have hkb : k < b.length := by omega
      obtain ⟨d, c', hd, hc', hrun, hcol⟩ := qC2 (qgF ha hka) (qgF hb hkb) c hc add
      have h3 : (k : Int) < qF a := by unfold qF; omega
      have h4 : (k : Int) < qF b := by unfold qF; omega
      have h5 : (k : Int) < qH (rI (List.replicate (k + 1) 0 ++ t.map fun c => (c.toNat : Int))) := by rw [ql0]; simp; omega
      have h6 : (List.replicate (k + 1) (0 : Int) ++ t.map fun c => (c.toNat : Int)).set (k : Int).toNat (d.toNat : Int) = List.replicate k 0 ++ (d :: t).map fun c => (c.toNat : Int) := by
        rw [Int.toNat_natCast, List.replicate_succ', List.append_assoc, List.set_append_right _ _ (by simp), List.length_replicate, Nat.sub_self]; rfl
      have h7 : zi .i64 (k : Int) 1 = (k : Int) - 1 := kd (by omega)
      refine ⟨k, [.s a, .s b, .b add, .i (c' : Int), .i ((k : Int) - 1), .r (rI (List.replicate k 0 ++ (d :: t).map fun c => (c.toNat : Int)))], by omega, ?_, d :: t, c', rfl, hc', q1d.2 ⟨hd, hdt⟩, by simp; omega, ?_⟩
      · simp only [STD, yq, h3, h4, h5, and_self, qiV hka, qiV hkb, hrun, qw6, h6, h7]
      · rw [qxM hka, qxM hkb, q5L, hla, hlb, show t.length = n - (k + 1) by omega, show n - k = (n - (k + 1)) + 1 by omega, Nat.pow_succ]
        generalize 10 ^ (n - (k + 1)) = p at *
        cases add with
        | true =>
          simp only [↓reduceIte] at hrel hcol ⊢
          have := congrArg (· * p) hcol
          simp only [Nat.add_mul] at this
          grind
        | false =>
          simp only [Bool.false_eq_true, ↓reduceIte] at hrel hcol ⊢
          have := congrArg (· * p) hcol
          simp only [Nat.add_mul] at this
          grind) (ps := [.s a, .s b, .b add, .i 0, .i ((n : Int) - 1), .r (rI (List.replicate n 0))]) ⟨[], 0, by simp, by omega, qkT, by simp, by
        rw [List.drop_eq_nil_of_le (by omega), List.drop_eq_nil_of_le (by omega)]; cases add <;> simp [qee]⟩
  obtain ⟨rfl, t, c, rfl, h3, h4, h5⟩ := h2
  exact ⟨t, c, h1, h3, h4, h5⟩
theorem qB2 {m n t c p:Nat} {add:Bool} (hm:m<p) (hn:n<p) (ht:t<p*10) (h4:if add then m+n=t+c*(p*10) else m+c*(p*10)=n+t) (hle:add=false→n≤m):t=if add then m+n else m - n:=by
 have hc0:c=0:=by
  rcases Nat.eq_zero_or_pos c with h | h
  ·exact h
  ·exfalso
   have h5:1*(p*10)≤c*(p*10):=Nat.mul_le_mul_right (p*10) h
   cases add with
   | true=>simp only [↓reduceIte] at h4;omega
   | false=>simp only [Bool.false_eq_true,↓reduceIte] at h4;have:=hle rfl;omega
 subst hc0
 cases add with
 | true=>simp only [↓reduceIte] at h4 ⊢;omega
 | false=>simp only [Bool.false_eq_true,↓reduceIte] at h4 ⊢;omega
theorem qu4 (a b:Nat):q9d (a:Int) (b:Int)=((max a b:Nat):Int):=by unfold q9d;split <;> omega
theorem q8T (m n:Nat) (add:Bool) (hm:(tN m).length≤100000000) (hn:(tN n).length≤100000000) (hle:add=false→n≤m) :
  (zV [.s (tN m),.s (tN n),.b add]).run=some (0,[.s (tN (if add then m+n else m - n))]):=by
 rw [qrD]
 obtain ⟨N,hN⟩:∃ N,N=max (tN m).length (tN n).length+1:=⟨_,rfl⟩
 have l1:(tN m).length≤N - 1:=by omega
 have l2:(tN n).length≤N - 1:=by omega
 have l3:N=N - 1+1:=by omega
 have p1:10 ^ (tN m).length≤10 ^ (N - 1):=Nat.pow_le_pow_right (Nat.succ_pos 9) l1
 have p2:10 ^ (tN n).length≤10 ^ (N - 1):=Nat.pow_le_pow_right (Nat.succ_pos 9) l2
 have p3:10 ^ N=10 ^ (N - 1)*10:=(congrArg (10 ^ ·) l3).trans (Nat.pow_succ (n:=10) (m:=N - 1))
 have e0:qw .i64 (q9d (qF (tN m)) (qF (tN n))) 1=(N:Int):=by
  unfold qF;rw [qu4,wH (by omega)];omega
 have e1:zi .i64 (N:Int) 1=(N:Int) - 1:=kd (by omega)
 have e2:(0:Int)≤(N:Int)∧(N:Int)≤140737488355328:=by omega
 have wa:=qnk (tN m) N (by omega) (by omega) (by omega)
 have wb:=qnk (tN n) N (by omega) (by omega) (by omega)
 have hda:q57 (List.replicate (N - (tN m).length) 48++tN m):=q74.2 ⟨qlR _,vz _⟩
 have hdb:q57 (List.replicate (N - (tN n).length) 48++tN n):=q74.2 ⟨qlR _,vz _⟩
 obtain ⟨t,c,h1,h2,h3,h4⟩:=qvZ (n:=N) hda hdb (by simp;omega) (by simp;omega) (by omega) add
 rw [qqB,qqB,q1i,q1i] at h4
 have ht:t≠[]:=by intro h;subst h;simp at h3;omega
 have hb:=qbg h2 ht (by omega)
 have e3:wh (N:Int) [.i 0]=rI (List.replicate N 0):=by rw [qiH];rfl
 have hvm:=q68 (vz m)
 have hvn:=q68 (vz n)
 have hvt:=q68 h2
 rw [q1i] at hvm hvn
 rw [h3] at hvt
 rw [p3] at h4 hvt
 have q1:=Nat.lt_of_lt_of_le hvm p1
 have q2:=Nat.lt_of_lt_of_le hvn p2
 clear hvm hvn p1 p2 p3
 have hval:val t=if add then m+n else m - n:=qB2 q1 q2 hvt h4 hle
 rw [hval] at hb
 simp only [STD,e0,wa,wb,e1,e2,and_self,e3,h1,qmT,hb]
theorem qwE (m n:Nat):(tN (m+n)).length≤max (tN m).length (tN n).length+1:=by
 have h1:=q68 (vz m)
 have h2:=q68 (vz n)
 rw [q1i] at h1 h2
 have p1:10 ^ (tN m).length≤10 ^ (max (tN m).length (tN n).length):=Nat.pow_le_pow_right (by omega) (by omega)
 have p2:10 ^ (tN n).length≤10 ^ (max (tN m).length (tN n).length):=Nat.pow_le_pow_right (by omega) (by omega)
 exact q5P _ _ (by rw [Nat.pow_succ];omega)
theorem qoN (m n:Nat):(tN (m*n)).length≤(tN m).length+(tN n).length:=by
 have h1:=q68 (vz m)
 have h2:=q68 (vz n)
 rw [q1i] at h1 h2
 have h3:=qht m
 have h4:=qht n
 have:m*n<10 ^ ((tN m).length+(tN n).length):=by
  rw [Nat.pow_add]
  exact Nat.mul_lt_mul'' h1 h2
 have:=q5P ((tN m).length+(tN n).length - 1) (m*n) (by rwa [show (tN m).length+(tN n).length - 1+1=(tN m).length+(tN n).length by omega])
 omega
def nl (m:Int):Nat:=(tN m.natAbs).length
theorem qpB (m:Int):0<nl m:=qht _
theorem qpS (m:Int):nl (-m)=nl m:=by unfold nl;rw [Int.natAbs_neg]
theorem qsB (m n:Int):nl (m+n)≤max (nl m) (nl n)+1:=by
 unfold nl
 exact Nat.le_trans (q08 (Int.natAbs_add_le m n)) (qwE _ _)
theorem uq (m n:Int):nl (m*n)≤nl m+nl n:=by
 unfold nl;rw [Int.natAbs_mul];exact qoN _ _
theorem qFi {m:Int} {k:Nat} (h:nl m≤k):m.natAbs<10 ^ k:=q42 h
theorem qn6 (m n:Int) (hm:nl m≤100000000 - 1) (hn:nl n≤100000000 - 1):(uO [.s (tI m),.s (tI n)]).run=some (0,[.s (tI (m+n))]):=by
 rw [qtF]
 have hm':(tN m.natAbs).length≤100000000 - 1:=hm
 have hn':(tN n.natAbs).length≤100000000 - 1:=hn
 have lt:=qsB m n
 by_cases hb:(tN m.natAbs).length≤18∧(tN n.natAbs).length≤18
 ·have b1:m.natAbs<1000000000000000000:=Nat.lt_of_lt_of_le (q42 hb.1) (by decide)
  have b2:n.natAbs<1000000000000000000:=Nat.lt_of_lt_of_le (q42 hb.2) (by decide)
  have e1:qw .i64 m n=m+n:=wH (by omega)
  have e2:=q3g (m+n) (by omega) (by omega)
  clear b1 b2
  have hbr:=q5z m n
  rw [if_pos hb] at hbr
  simp only [STD,hbr,e1,e2]
 ·have hbr:=q5z m n
  rw [if_neg hb] at hbr
  have hP:=q8T m.natAbs n.natAbs true (by omega) (by omega) (fun h=>by cases h)
  simp only [↓reduceIte] at hP
  simp only [STD,hbr,vS,jH,qgu,decide_eq_decide,hP]
  have la:=qwE m.natAbs n.natAbs
  by_cases hs:(m<0)=(n<0)
  ·have hs':(m<0↔n<0):=by rw [hs]
   rw [if_pos hs']
   simp only [q0B _ _ (show (tN (m.natAbs+n.natAbs)).length≤100000000 by omega),STD]
   have e:(if m<0 then -((m.natAbs+n.natAbs:Nat):Int) else ((m.natAbs+n.natAbs:Nat):Int))=m+n:=by
    by_cases h:m<0
    ·rw [if_pos h];have:=hs'.1 h;omega
    ·rw [if_neg h];have:¬ n<0:=fun q=>h (hs'.2 q);omega
   rw [e]
  ·have hs':¬ (m<0↔n<0):=fun h=>hs (propext h)
   rw [if_neg hs']
   by_cases hlt:m.natAbs<n.natAbs
   ·have hP2:=q8T n.natAbs m.natAbs false (by omega) (by omega) (fun _=>by omega)
    simp only [Bool.false_eq_true,↓reduceIte] at hP2
    have ls:(tN (n.natAbs - m.natAbs)).length≤100000000:=Nat.le_trans (q08 (Nat.sub_le _ _)) (by omega)
    simp only [STD,hlt,hP2,q0B _ _ ls]
    have e:(if n<0 then -((n.natAbs - m.natAbs:Nat):Int) else ((n.natAbs - m.natAbs:Nat):Int))=m+n:=by
     by_cases h:n<0
     ·rw [if_pos h];have:¬ m<0:=fun q=>hs' ⟨fun _=>h,fun _=>q⟩;omega
     ·rw [if_neg h];have:m<0:=by
       rcases Decidable.em (m<0) with q | q
       ·exact q
       ·exact absurd ⟨fun x=>absurd x q,fun x=>absurd x h⟩ hs'
      omega
    rw [e]
   ·have hP2:=q8T m.natAbs n.natAbs false (by omega) (by omega) (fun _=>by omega)
    simp only [Bool.false_eq_true,↓reduceIte] at hP2
    have ls:(tN (m.natAbs - n.natAbs)).length≤100000000:=Nat.le_trans (q08 (Nat.sub_le _ _)) (by omega)
    simp only [STD,hlt,hP2,q0B _ _ ls]
    have e:(if m<0 then -((m.natAbs - n.natAbs:Nat):Int) else ((m.natAbs - n.natAbs:Nat):Int))=m+n:=by
     by_cases h:m<0
     ·rw [if_pos h];have:¬ n<0:=fun q=>hs' ⟨fun _=>q,fun _=>h⟩;omega
     ·rw [if_neg h];have:n<0:=by
       rcases Decidable.em (n<0) with q | q
       ·exact q
       ·exact absurd ⟨fun x=>absurd x h,fun x=>absurd x q⟩ hs'
      omega
    rw [e]
theorem q8P (m n:Int) (hm:nl m≤100000000 - 1) (hn:nl n≤100000000 - 1):(wx [.s (tI m),.s (tI n)]).run=some (0,[.s (tI (m - n))]):=by
 rw [qrE]
 have ht:=qc8 n (by have:(tN n.natAbs).length≤100000000 - 1:=hn;omega)
 have hp:=qn6 m (-n) hm (by rw [qpS];exact hn)
 rw [← Int.sub_eq_add_neg] at hp
 simp only [STD,ht,hp]
def sgn (n:Int):Int:=if n<0 then -1 else if n=0 then 0 else 1
theorem qed (m n:Int) (hm:nl m≤100000000 - 1) (hn:nl n≤100000000 - 1):(je [.s (tI m),.s (tI n)]).run=some (0,[.i (sgn (m - n))]):=by
 rw [qrx]
 have h0:(tI (m - n)=[48])=(m - n=0):=by
  have:tI 0=[48]:=rfl
  rw [← this];exact propext ⟨fun h=>qw4 h,fun h=>by rw [h]⟩
 simp only [STD,q8P m n hm hn,wc,h0,jH]
 unfold sgn
 by_cases h1:m - n=0
 ·rw [if_pos h1,if_neg (by omega),if_pos h1]
 ·rw [if_neg h1]
  by_cases h2:m - n<0
  ·rw [if_pos h2,if_pos h2]
  ·rw [if_neg h2,if_neg h2,if_neg h1]
end Go.Eng

namespace Go.Eng
def wv (l:List Int):Int:=l.foldl (fun a x=>10*a+x) 0
theorem quB:∀ (t:List Int) (a:Int),t.foldl (fun a x=>10*a+x) a=a*10 ^ t.length+wv t
 | [],a=>by simp [wv]
 | c :: t,a=>by
  have h1:=quB t (10*a+c)
  have h2:=quB t (10*0+c)
  have h3:wv (c :: t)=t.foldl (fun a x=>10*a+x) (10*0+c):=rfl
  rw [h3,h2,List.foldl_cons,h1,List.length_cons,Int.pow_succ]
  grind
theorem qmG (c:Int) (t:List Int):wv (c :: t)=c*10 ^ t.length+wv t:=by
 have h3:wv (c :: t)=t.foldl (fun a x=>10*a+x) (10*0+c):=rfl
 rw [h3,quB];grind
theorem qEK:wv []=0:=rfl
theorem qCc (n:Nat):wv (List.replicate n 0)=0:=by
 induction n with
 | zero=>rfl
 | succ n ih=>rw [List.replicate_succ,qmG,ih];simp
theorem qD0:∀ (l:List Int) (j:Nat) (hj:j<l.length) (y:Int),wv (l.set j y)=wv l+(y - l[j])*10 ^ (l.length - (j+1))
 | [],j,hj,y=>by simp at hj
 | c :: t,0,hj,y=>by
  rw [List.set_cons_zero,qmG,qmG]
  simp only [List.getElem_cons_zero,List.length_cons,Nat.add_sub_cancel,Nat.zero_add]
  grind
 | c :: t,j+1,hj,y=>by
  have hj':j<t.length:=by simpa using hj
  rw [List.set_cons_succ,qmG,qmG,qD0 t j hj' y,List.length_set]
  simp only [List.getElem_cons_succ,List.length_cons]
  rw [show t.length+1 - (j+1+1)=t.length - (j+1) by omega]
  grind
theorem qDW {l:List Int} {k:Nat} (h:k<l.length):wv (l.drop k)=l[k]*10 ^ (l.length - (k+1))+wv (l.drop (k+1)):=by
 rw [List.drop_eq_getElem_cons h,qmG,List.length_drop]
theorem yt {l:List Int} {j:Nat} (h:j<l.length):l.getD j 0=l[j]:=by simp [List.getD_eq_getElem?_getD,h]
theorem qqa {n i:Nat} (h:i<n):(10:Int) ^ (n - i)=10 ^ (n - (i+1))*10:=by
 rw [← Int.pow_succ];congr 1;omega
theorem qBI {V A Q B:Int}:V*(Q*10)*B+A*B*Q=(10*V+A)*Q*B:=by grind
theorem qDG {P Q A V y:Int}:A*(10*V+y)*P*Q=A*V*(P*10)*Q+A*y*(P*Q):=by grind
theorem qtY {l:List Int} {j:Nat} {y B:Int} (h:∀ x,x ∈ l→0≤x∧x≤B) (hy:0≤y∧y≤B):∀ x,x ∈ l.set j y→0≤x∧x≤B:=by
 intro x hx
 rcases List.mem_or_eq_of_mem_set hx with h1 | h1
 ·exact h x h1
 ·rw [h1];exact hy
theorem qyV {a b : List UInt8} (ha : q57 a) (hb : q57 b) {i : Nat} (hi : i < a.length) (hla : a.length ≤ 1000000) (hlb : b.length ≤ 1000000) {cols : List Int} (hc : cols.length = a.length + b.length) {C : Nat} (hC : C ≤ 1000000000000)
    (hB : ∀ x, x ∈ cols → 0 ≤ x ∧ x ≤ 81 * (C : Int)) :
    ∃ cols' : List Int, (qg vg [.s a, .s b, .i (i : Int), .i 0, .r (rI cols)]).run = some (0, [.s a, .s b, .i (i : Int), .r (rI cols')]) ∧ cols'.length = a.length + b.length ∧
      (∀ x, x ∈ cols' → 0 ≤ x ∧ x ≤ 81 * ((C + b.length : Nat) : Int)) ∧ wv cols' = wv cols + (dv a[i] : Int) * (val b : Int) * 10 ^ (a.length - (i + 1)) := by
  obtain ⟨j, qs, h1, h2⟩ := yu (S := vg) (fun K ps => ∃ (k : Nat) (cs : List Int), K + k = b.length ∧ ps = [.s a, .s b, .i (i : Int), .i (k : Int), .r (rI cs)] ∧ cs.length = a.length + b.length ∧
      (∀ x, x ∈ cs → 0 ≤ x ∧ x ≤ 81 * ((C + k : Nat) : Int)) ∧ wv cs = wv cols + (dv a[i] : Int) * (val (b.take k) : Int) * 10 ^ (b.length - k) * 10 ^ (a.length - (i + 1)))
    (fun j qs => j = 0 ∧ ∃ cs : List Int, qs = [.s a, .s b, .i (i : Int), .r (rI cs)] ∧ cs.length = a.length + b.length ∧
      (∀ x, x ∈ cs → 0 ≤ x ∧ x ≤ 81 * ((C + b.length : Nat) : Int)) ∧ wv cs = wv cols + (dv a[i] : Int) * (val b : Int) * 10 ^ (a.length - (i + 1))) (n := b.length) (by omega) (fun K ps hK ⟨k, cs, hkK, hps, hlen, hbd, hw⟩ => by
    subst hps
    rw [qko]
    cases K with
    | zero =>
      right
      obtain rfl : k = b.length := by omega
      have : ¬ (b.length : Int) < qF b := by unfold qF; omega
      refine ⟨0, [.s a, .s b, .i (i : Int), .r (rI cs)], ?_, rfl, cs, rfl, hlen, hbd, ?_⟩
      · simp only [STD, this]
      · rw [hw, List.take_length, Nat.sub_self]; grind
    | succ K =>
      left
      have hk : k < b.length := by omega
      have g1 : (k : Int) < qF b := by unfold qF; omega
      have g2 : (i : Int) < qF a := by unfold qF; omega
      have e1 : qw .i64 (qw .i64 (i : Int) (k : Int)) 1 = ((i + k + 1 : Nat) : Int) := by
        rw [wH (x := (i : Int)) (by omega), wH (by omega)]; omega
      have hj : i + k + 1 < cs.length := by omega
      have g3 : ((i + k + 1 : Nat) : Int) < qH (rI cs) := by rw [ql0]; omega
      obtain ⟨da, la⟩ := qwx ha hi
      obtain ⟨db, lb⟩ := qwx hb hk
      have hx := hbd _ (List.getElem_mem hj)
      have hmul : dv a[i] * dv b[k] ≤ 9 * 9 := Nat.mul_le_mul (by omega) (by omega)
      have e2 : q0K .i64 (dv a[i] : Int) (dv b[k] : Int) = ((dv a[i] * dv b[k] : Nat) : Int) := by
        rw [qaD (by rw [← Int.natCast_mul]; omega)]; simp
      have e3 : qw .i64 cs[i + k + 1] ((dv a[i] * dv b[k] : Nat) : Int) = cs[i + k + 1] + ((dv a[i] * dv b[k] : Nat) : Int) := wH (by omega)
      have e4 := q0e hk (by omega)
      refine ⟨K, [.s a, .s b, .i (i : Int), .i ((k + 1 : Nat) : Int), .r (rI (cs.set (i + k + 1) (cs[i + k + 1] + ((dv a[i] * dv b[k] : Nat) : Int))))], by omega, ?_, k + 1, _, by omega, rfl, by simpa using hlen, ?_, ?_⟩
      · simp only [STD, g1, g2, yq, and_self, e1, g3, da, db, e2, qDJ, Int.toNat_natCast, yt hj, e3, e4, qw6]
      · refine qtY (fun x hx => ?_) ?_
        · have := hbd x hx; omega
        · omega
      · rw [qD0 _ _ hj, hw, q8v hk, hlen]
        have p1 := qqa hk
        have p2 : (10 : Int) ^ (a.length + b.length - (i + k + 1 + 1)) = 10 ^ (b.length - (k + 1)) * 10 ^ (a.length - (i + 1)) := by
          rw [← Int.pow_add]; congr 1; omega
        rw [p1, p2]
        generalize (10 : Int) ^ (b.length - (k + 1)) = P
        generalize (10 : Int) ^ (a.length - (i + 1)) = Q
        simp only [Int.natCast_add, Int.natCast_mul]
        generalize (dv a[i] : Int) = A
        generalize (dv b[k] : Int) = y
        generalize (val (b.take k) : Int) = V
        generalize cs[i + k + 1] = c
        have := qDG (P := P) (Q := Q) (A := A) (V := V) (y := y)
        grind) (ps := [.s a, .s b, .i (i : Int), .i 0, .r (rI cols)]) ⟨0, cols, by omega, rfl, hc, by simpa using hB, by simp [qee]⟩
  obtain ⟨rfl, cs, rfl, h3, h4, h5⟩ := h2
  exact ⟨cs, h1, h3, h4, h5⟩
theorem qz9 {a b:List UInt8} (ha:q57 a) (hb:q57 b) (hla:a.length≤1000000) (hlb:b.length≤1000000) :
  ∃ cols:List Int,(qg zm [.s a,.s b,.i 0,.r (rI (List.replicate (a.length+b.length) 0))]).run=some (0,[.r (rI cols)])∧cols.length=a.length+b.length ∧
   (∀ x,x ∈ cols→0≤x∧x≤81000000000000)∧wv cols=(val a:Int)*(val b:Int):=by
 have hsq:∀ i,i≤a.length→i*b.length≤1000000000000:=fun i hi=>by
  have:=Nat.mul_le_mul (show i≤1000000 by omega) hlb;omega
 obtain ⟨j,qs,h1,h2⟩:=yu (S:=zm) (fun K ps=>∃ (i:Nat) (cs:List Int),K+i=a.length∧ps=[.s a,.s b,.i (i:Int),.r (rI cs)]∧cs.length=a.length+b.length ∧
   (∀ x,x ∈ cs→0≤x∧x≤81*((i*b.length:Nat):Int))∧wv cs=(val (a.take i):Int)*10 ^ (a.length - i)*(val b:Int))
  (fun j qs=>j=0∧∃ cs:List Int,qs=[.r (rI cs)]∧cs.length=a.length+b.length∧(∀ x,x ∈ cs→0≤x∧x≤81000000000000)∧wv cs=(val a:Int)*(val b:Int)) (n:=a.length) (by omega) (fun K ps hK ⟨i,cs,hiK,hps,hlen,hbd,hw⟩=>by
  subst hps
  rw [qkG]
  have hs:=hsq i (by omega)
  cases K with
  | zero=>
   right
   obtain rfl:i=a.length:=by omega
   have:¬ (a.length:Int)<qF a:=by unfold qF;omega
   refine ⟨0,[.r (rI cs)],?_,rfl,cs,rfl,hlen,fun x hx=>?_,?_⟩
   ·simp only [STD,this]
   ·have:=hbd x hx;omega
   ·rw [hw,List.take_length,Nat.sub_self];grind
  | succ K=>
   left
   have hi:i<a.length:=by omega
   have g1:(i:Int)<qF a:=by unfold qF;omega
   obtain ⟨cs',q1,q2,q3,q4⟩:=qyV ha hb hi hla hlb hlen (C:=i*b.length) hs hbd
   have e4:=q0e hi (by omega)
   refine ⟨K,[.s a,.s b,.i ((i+1:Nat):Int),.r (rI cs')],by omega,?_,i+1,cs',by omega,rfl,q2,?_,?_⟩
   ·simp only [STD,g1,q1,e4]
   ·rw [Nat.add_mul,Nat.one_mul];exact q3
   ·rw [q4,hw,q8v hi]
    rw [qqa hi,Int.natCast_add,Int.natCast_mul]
    exact qBI) (ps:=[.s a,.s b,.i 0,.r (rI (List.replicate (a.length+b.length) 0))]) ⟨0,List.replicate (a.length+b.length) 0,by omega,rfl,by simp,fun x hx=>by rw [(List.mem_replicate.1 hx).2];omega,by rw [qCc];simp [qee]⟩
 obtain ⟨rfl,cs,rfl,h3,h4,h5⟩:=h2
 exact ⟨cs,h1,h3,h4,h5⟩
theorem qzr {cols:List Int} {N:Nat} (hl:cols.length=N) (hN:N≤2000000) (hB:∀ x,x ∈ cols→0≤x∧x≤81000000000000) :
  ∃ (t:List UInt8) (c:Nat),(qg vM [.i 0,.i ((N:Int) - 1),.r (rI cols),.r (rI (List.replicate N 0))]).run=some (0,[.r (rI (t.map fun c=>(c.toNat:Int)))])∧q57 t∧t.length=N∧wv cols=(val t:Int)+(c:Int)*10 ^ N:=by
 obtain ⟨j,qs,h1,h2⟩:=yu (S:=vM) (fun K ps=>∃ (t:List UInt8) (c:Nat),ps=[.i (c:Int),.i ((K:Int) - 1),.r (rI cols),.r (rI (List.replicate K 0++t.map fun c=>(c.toNat:Int)))]∧c≤81000000000000∧q57 t∧K+t.length=N ∧
   wv (cols.drop K)=(val t:Int)+(c:Int)*10 ^ (N - K))
  (fun j qs=>j=0∧∃ (t:List UInt8) (c:Nat),qs=[.r (rI (t.map fun c=>(c.toNat:Int)))]∧q57 t∧t.length=N∧wv cols=(val t:Int)+(c:Int)*10 ^ N) (n:=N) (by omega) (fun K ps hK ⟨t,c,hps,hc,hdt,hlt,hrel⟩=>by
  subst hps
  rw [qiT]
  cases K with
  | zero=>
   right
   have:¬ (0:Int)≤((0:Nat):Int) - 1:=by omega
   refine ⟨0,[.r (rI (t.map fun c=>(c.toNat:Int)))],?_,rfl,t,c,rfl,hdt,by omega,by simpa using hrel⟩
   simp only [STD,this,List.replicate_zero,List.nil_append]
  | succ K=>
   left
   have e0:((K+1:Nat):Int) - 1=(K:Int):=by omega
   rw [e0]
   have hk:K<cols.length:=by omega
   obtain ⟨x,hx⟩:∃ x:Nat,cols[K]=(x:Int)∧x≤81000000000000:=by
    have:=hB _ (List.getElem_mem hk)
    exact ⟨cols[K].toNat,by omega,by omega⟩
   have e1:qw .i64 (c:Int) (x:Int)=((c+x:Nat):Int):=by rw [wH (by omega)];omega
   have e2:uA .i64 ((c+x:Nat):Int) 10=(((c+x) / 10:Nat):Int):=qxX (b:=10) (by omega)
   have e3:q69 ((c+x:Nat):Int) 10=(((c+x) % 10:Nat):Int):=qos _ 10
   have e4:jU .u8 (qw .i64 48 (((c+x) % 10:Nat):Int))=((dch ((c+x) % 10)).toNat:Int):=by
    rw [wH (by omega),qst (by omega),q2Y (by omega)];omega
   have h3:(K:Int)<qH (rI cols):=by rw [ql0];omega
   have h5:(K:Int)<qH (rI (List.replicate (K+1) 0++t.map fun c=>(c.toNat:Int))):=by rw [ql0];simp;omega
   have h6:(List.replicate (K+1) (0:Int)++t.map fun c=>(c.toNat:Int)).set K ((dch ((c+x) % 10)).toNat:Int)=List.replicate K 0++(dch ((c+x) % 10) :: t).map fun c=>(c.toNat:Int):=by
    rw [List.replicate_succ',List.append_assoc,List.set_append_right _ _ (by simp),List.length_replicate,Nat.sub_self];rfl
   have h7:zi .i64 (K:Int) 1=(K:Int) - 1:=kd (by omega)
   refine ⟨K,[.i (((c+x) / 10:Nat):Int),.i ((K:Int) - 1),.r (rI cols),.r (rI (List.replicate K 0++(dch ((c+x) % 10) :: t).map fun c=>(c.toNat:Int)))],by omega,?_,_,_,rfl,by omega,q1d.2 ⟨by rw [q2Y (by omega)];omega,hdt⟩,by simp;omega,?_⟩
   ·simp only [STD,yq,h3,h5,and_self,qDJ,Int.toNat_natCast,yt hk,hx.1,e1,e2,e3,e4,qw6,h6,h7]
   ·rw [qDW hk,hrel,q5L,hx.1,hl,qni (by omega),show t.length=N - (K+1) by omega]
    rw [qqa (show K<N by omega)]
    have e:((c+x:Nat):Int)=10*(((c+x) / 10:Nat):Int)+(((c+x) % 10:Nat):Int):=by omega
    simp only [Int.natCast_add,Int.natCast_mul,Int.natCast_pow] at e ⊢
    generalize hP:(10:Int) ^ (N - (K+1))=P at *
    generalize (((c+x) / 10:Nat):Int)=q at *
    generalize (((c+x) % 10:Nat):Int)=r at *
    have:(c:Int)=10*q+r - x:=by omega
    rw [this];grind) (ps:=[.i 0,.i ((N:Int) - 1),.r (rI cols),.r (rI (List.replicate N 0))]) ⟨[],0,by simp,by omega,qkT,by simp,by
    rw [List.drop_eq_nil_of_le (by omega)];simp [qee,qEK]⟩
 obtain ⟨rfl,t,c,rfl,h3,h4,h5⟩:=h2
 exact ⟨t,c,h1,h3,h4,h5⟩
theorem qoU (m n:Nat) (hm:(tN m).length≤1000000) (hn:(tN n).length≤1000000):(j8 [.s (tN m),.s (tN n)]).run=some (0,[.s (tN (m*n))]):=by
 rw [qo8]
 obtain ⟨cols,c1,c2,c3,c4⟩:=qz9 (vz m) (vz n) hm hn
 obtain ⟨N,hN⟩:∃ N,N=(tN m).length+(tN n).length:=⟨_,rfl⟩
 have hp:=qht m
 rw [← hN] at c1 c2
 obtain ⟨t,c,t1,t2,t3,t4⟩:=qzr c2 (by omega) c3
 have ht:t≠[]:=by intro h;subst h;simp at t3;omega
 have hb:=qbg t2 ht (by omega)
 have e0:qw .i64 (qF (tN m)) (qF (tN n))=(N:Int):=by unfold qF;rw [wH (by omega)];omega
 have e1:(0:Int)≤(N:Int)∧(N:Int)≤17592186044416:=by omega
 have e1':(0:Int)≤(N:Int)∧(N:Int)≤140737488355328:=by omega
 have e2:wh (N:Int) [.i 0]=rI (List.replicate N 0):=by rw [qiH];rfl
 have e3:qH (rI cols)=(N:Int):=by rw [ql0,c2]
 have e4:zi .i64 (N:Int) 1=(N:Int) - 1:=kd (by omega)
 have hval:val t=m*n:=by
  have v1:=q68 (vz m)
  have v2:=q68 (vz n)
  have v3:=q68 t2
  rw [t3] at v3
  rw [c4,q1i,q1i] at t4
  rw [q1i] at v1 v2
  have v4:m*n<10 ^ N:=by rw [hN,Nat.pow_add];exact Nat.mul_lt_mul'' v1 v2
  have t5:m*n=val t+c*10 ^ N:=by
   have:((m*n:Nat):Int)=((val t+c*10 ^ N:Nat):Int):=by simpa using t4
   omega
  clear t4 c4 v1 v2
  generalize 10 ^ N=P at *
  rcases Nat.eq_zero_or_pos c with h | h
  ·subst h;omega
  ·have:=Nat.mul_le_mul_right P h;omega
 rw [hval] at hb
 simp only [STD,e0,e1,e1',and_self,e2,c1,e3,e4,t1,qmT,hb]
theorem qkO (m n : Int) (hm : nl m ≤ 1000000) (hn : nl n ≤ 1000000) : (zU [.s (tI m), .s (tI n)]).run = some (0, [.s (tI (m * n))]) := by
  rw [qrt]
  have hm' : (tN m.natAbs).length ≤ 1000000 := hm
  have hn' : (tN n.natAbs).length ≤ 1000000 := hn
  have hbr := q5z m n
  have hP := qoU m.natAbs n.natAbs hm' hn'
  have lm := qoN m.natAbs n.natAbs
  have hS := fun b => q0B (m.natAbs * n.natAbs) b (by omega)
  have tm := qv9 m
  have tn := qv9 n
  have e0 : qw .i64 (qF (tI m)) (qF (tI n)) = (((tI m).length + (tI n).length : Nat) : Int) := by unfold qF; rw [wH (by omega)]; omega
  have sg : (if (¬ ((m < 0) = (n < 0))) then -((m.natAbs * n.natAbs : Nat) : Int) else ((m.natAbs * n.natAbs : Nat) : Int)) = m * n := by
    by_cases h1 : m < 0 <;> by_cases h2 : n < 0
    · simp only [h1, h2, not_true_eq_false, if_false]
      rw [Int.natCast_mul, show (m.natAbs : Int) = -m by omega, show (n.natAbs : Int) = -n by omega]; grind
    · simp only [h1, h2]
      rw [if_pos (by simp), Int.natCast_mul, show (m.natAbs : Int) = -m by omega, show (n.natAbs : Int) = n by omega]; grind
    · simp only [h1, h2]
      rw [if_pos (by simp), Int.natCast_mul, show (m.natAbs : Int) = m by omega, show (n.natAbs : Int) = -n by omega]; grind
    · simp only [h1, h2, not_true_eq_false, if_false]
      rw [Int.natCast_mul, show (m.natAbs : Int) = m by omega, show (n.natAbs : Int) = n by omega]
  by_cases hb : (tN m.natAbs).length ≤ 18 ∧ (tN n.natAbs).length ≤ 18
  · rw [if_pos hb] at hbr
    by_cases h18 : (tI m).length + (tI n).length ≤ 18
    · have h18' : (((tI m).length + (tI n).length : Nat) : Int) ≤ 18 := by omega
      have lmn : (tN (m * n).natAbs).length ≤ 18 := by
        rw [Int.natAbs_mul]
        have h3 : ∀ q : Int, (tN q.natAbs).length ≤ (tI q).length := fun q => by unfold tI; split <;> simp
        have := h3 m; have := h3 n; omega
      have b1 : (m * n).natAbs < 1000000000000000000 := Nat.lt_of_lt_of_le (q42 lmn) (by decide)
      have e1 : q0K .i64 m n = m * n := qaD (by omega)
      have e2 := q3g (m * n) (by omega) (by omega)
      clear b1
      simp only [STD, hbr, e0, h18', e1, e2]
    · have h18' : ¬ (((tI m).length + (tI n).length : Nat) : Int) ≤ 18 := by omega
      simp only [STD, hbr, e0, h18', vS, hP, jH, hS, decide_eq_decide]
      rw [← sg]; simp only [eq_iff_iff]
  · rw [if_neg hb] at hbr
    simp only [STD, hbr, vS, hP, jH, hS, decide_eq_decide]
    rw [← sg]; simp only [eq_iff_iff]
end Go.Eng

namespace Go.Eng
theorem qEL {x:Int} (h:0≤x∧x≤254):qw .u8 x 1=x+1:=by
 unfold qw IntKind.wrap
 simp [IntKind.signed,IntKind.bits];omega
theorem qwK (a q:List UInt8) (i:Int) {b x0:Nat} (hb:0<b) (hx:x0<10*b) (lb:(tN b).length≤1000000) (lx:(tN x0).length≤1000002) :
  (qg zB [.s a,.s (tN b),.s q,.s (tN x0),.i i,.i 48]).run=some (0,[.s a,.s (tN b),.s q,.s (tN (x0 % b)),.i i,.i (48+((x0 / b:Nat):Int))]):=by
 obtain ⟨j,qs,h1,h2⟩:=yu (S:=zB) (fun k ps=>∃ x c:Nat,ps=[.s a,.s (tN b),.s q,.s (tN x),.i i,.i (48+(c:Int))]∧x+c*b=x0∧c+k=10∧c≤9)
  (fun j qs=>j=0∧qs=[.s a,.s (tN b),.s q,.s (tN (x0 % b)),.i i,.i (48+((x0 / b:Nat):Int))]) (n:=10) (by omega) (fun k ps hk ⟨x,c,hps,he,hck,hc⟩=>by
  subst hps
  rw [qio]
  have hxl:x≤x0:=by rw [← he];exact Nat.le_add_right _ _
  have hP:=q8T x b false (by have:=q08 hxl;omega) (by omega)
  by_cases hlt:x<b
  ·right
   refine ⟨0,[.s a,.s (tN b),.s q,.s (tN x),.i i,.i (48+(c:Int))],?_,rfl,?_⟩
   ·simp only [STD,qgu,hlt,decide_true]
   ·have e1:x0 / b=c:=by rw [← he,Nat.add_mul_div_right _ _ hb,Nat.div_eq_of_lt hlt,Nat.zero_add]
    have e2:x0 % b=x:=by rw [← he,Nat.add_mul_mod_self_right,Nat.mod_eq_of_lt hlt]
    rw [e1,e2]
  ·left
   have hge:b≤x:=by omega
   have hP:=hP (fun _=>hge)
   simp only [Bool.false_eq_true,↓reduceIte] at hP
   have hc9:c+1<10:=by
    apply Nat.lt_of_mul_lt_mul_right (a:=b)
    have:(c+1)*b=c*b+b:=Nat.succ_mul c b
    omega
   refine ⟨k - 1,[.s a,.s (tN b),.s q,.s (tN (x - b)),.i i,.i (48+((c+1:Nat):Int))],by omega,?_,x - b,c+1,rfl,?_,by omega,by omega⟩
   ·simp only [STD,qgu,hlt,decide_false,hP,qEL (show (0:Int)≤48+(c:Int)∧48+(c:Int)≤254 by omega)]
    rw [show (48+(c:Int)+1)=48+((c+1:Nat):Int) by omega]
   ·have:(c+1)*b=c*b+b:=Nat.succ_mul c b
    omega) (ps:=[.s a,.s (tN b),.s q,.s (tN x0),.i i,.i 48]) ⟨x0,0,by simp,by simp,by omega,by omega⟩
 obtain ⟨rfl,rfl⟩:=h2
 exact h1
theorem qBZ {s:List UInt8} {i:Nat} (h:i<s.length):q70 s (i:Int) (((i+1:Nat):Int))=[s[i]]:=by
 unfold q70
 simp only [Int.toNat_natCast]
 rw [List.take_succ_eq_append_getElem h,List.drop_append_of_le_length (by simp;omega)]
 rw [List.drop_of_length_le (by simp;omega)];rfl
theorem qr4 {m n:Nat} (hn:0<n) (lm:(tN m).length≤1000000) (ln:(tN n).length≤1000000) :
  (q2V [.s (tN m),.s (tN n)]).run=some (0,[.s (tN (m / n)),.s (tN (m % n))]):=by
 rw [qod]
 have hdm:=vz m
 obtain ⟨j,qs,h1,rfl,q,h2,h3,h4,h5⟩:=yu (S:=jp) (fun k ps=>∃ (i r:Nat) (q:List UInt8),ps=[.s (tN m),.s (tN n),.s q,.s (tN r),.i (i:Int)]∧i+k=(tN m).length∧q.length=i∧q57 q∧val q*n+r=val ((tN m).take i)∧r<n)
  (fun j qs=>j=0∧∃ q:List UInt8,qs=[.s q,.s (tN (m % n))]∧q.length=(tN m).length∧q57 q∧val q=m / n) (n:=(tN m).length) (by omega) (fun k ps hk ⟨i,r,q,hps,hik,hql,hdq,hv,hr⟩=>by
  subst hps
  rw [qkL]
  by_cases hi:i<(tN m).length
  ·left
   have hc:=qgF hdm hi
   have hw:qw .i64 (i:Int) 1=((i+1:Nat):Int):=by rw [wH (by omega)];omega
   have hlr:(tN r).length≤(tN n).length:=q08 (by omega)
   have hd10:=qz6 hc
   have hB:=qbg (s:=tN r++[(tN m)[i]]) (q74.2 ⟨vz r,fun c hcc=>by simp at hcc;subst hcc;exact hc⟩) (by simp) (by simp;omega)
   rw [qjF,q1i] at hB
   have lx:(tN (10*r+dv (tN m)[i])).length≤1000002:=by
    have h10:10*r+dv (tN m)[i]≤10*n:=by omega
    have e10:(tN (10*n)).length≤(tN 10).length+(tN n).length:=qoN 10 n
    have e11:(tN 10).length=2:=by decide
    have:=q08 h10
    omega
   have hI:=qwK (tN m) q (i:Int) hn (x0:=10*r+dv (tN m)[i]) (by omega) ln lx
   have hq10:(10*r+dv (tN m)[i]) / n<10:=by
    rw [Nat.div_lt_iff_lt_mul hn];omega
   have hd1:(i:Int)<qF (tN m):=by unfold qF;omega
   have hd2:((i+1:Nat):Int)≤qF (tN m):=by unfold qF;omega
   have hrs:qgg [[.i (48+(((10*r+dv (tN m)[i]) / n:Nat):Int))]]=[dch ((10*r+dv (tN m)[i]) / n)]:=by
    simp only [qgg,List.map_cons,List.map_nil,List.getD_cons_zero,U.toI,dch]
    congr 2
   have hl1:qF (tN r)+qF [(tN m)[i]]≤140737488355328:=by unfold qF;simp;omega
   have hl2:qF q+qF [dch ((10*r+dv (tN m)[i]) / n)]≤140737488355328:=by unfold qF;simp;omega
   refine ⟨k - 1,[.s (tN m),.s (tN n),.s (q++[dch ((10*r+dv (tN m)[i]) / n)]),.s (tN ((10*r+dv (tN m)[i]) % n)),.i ((i+1:Nat):Int)],by omega,?_,i+1,_,_,rfl,by omega,by simp [hql],?_,?_,Nat.mod_lt _ hn⟩
   ·simp only [STD,hw,hd1,hd2,qBZ hi,hl1,q7O,hB,hI,hrs,hl2,show (0:Int)≤(i:Int) by omega,show (0:Int)≤((i+1:Nat):Int) by omega,show (i:Int)≤((i+1:Nat):Int) by omega,and_self]
   ·exact q74.2 ⟨hdq,quF hq10⟩
   ·rw [qjF,qni hq10,q8v hi,← hv]
    have hdm:=Nat.div_add_mod (10*r+dv (tN m)[i]) n
    generalize (10*r+dv (tN m)[i]) / n=c at *
    generalize (10*r+dv (tN m)[i]) % n=e at *
    have e1:(10*val q+c)*n=10*(val q*n)+n*c:=by rw [Nat.add_mul,Nat.mul_assoc,Nat.mul_comm c n]
    omega
  ·right
   have hie:i=(tN m).length:=by omega
   have hd1:¬ ((i:Int)<qF (tN m)):=by unfold qF;omega
   rw [hie,List.take_length,q1i] at hv
   have e1:m / n=val q:=by rw [← hv,Nat.add_comm,Nat.add_mul_div_right _ _ hn,Nat.div_eq_of_lt hr,Nat.zero_add]
   have e2:m % n=r:=by rw [← hv,Nat.add_comm,Nat.add_mul_mod_self_right,Nat.mod_eq_of_lt hr]
   refine ⟨0,[.s q,.s (tN r)],?_,rfl,q,by rw [e2],by omega,hdq,e1.symm⟩
   simp only [STD,hd1]) (ps:=[.s (tN m),.s (tN n),.s [],.s [48],.i 0]) ⟨0,0,[],rfl,by omega,rfl,qkT,by simp [qee],hn⟩
 subst h2
 have hB:=qbg (s:=q) h4 (by intro h;subst h;have:=qht m;simp at h3;omega) (by omega)
 rw [h5] at hB
 simp only [STD,h1,hB]
def fq (m n:Int):Int:=if 0<n then m / n else (-m) / (-n)
theorem qmf {m n q:Int} (h:(0<n∧q*n≤m∧m<q*n+n)∨(n<0∧q*n+n<m∧m≤q*n)):fq m n=q:=by
 unfold fq
 rcases h with ⟨h0,h1,h2⟩ | ⟨h0,h1,h2⟩
 ·rw [if_pos h0]
  exact ((Int.ediv_emod_unique (r:=m - q*n) h0).2 ⟨by rw [Int.mul_comm];omega,by omega,by omega⟩).1
 ·rw [if_neg (by omega)]
  have e:-n*q=-(q*n):=by rw [Int.neg_mul,Int.mul_comm]
  exact ((Int.ediv_emod_unique (r:=q*n - m) (show 0< -n by omega)).2 ⟨by omega,by omega,by omega⟩).1
theorem qot {n q:Int} (h:n≠0):fq (q*n) n=q:=by
 apply qmf
 rcases Int.lt_or_lt_of_ne h with h | h
 ·exact .inr ⟨h,by omega,by omega⟩
 ·exact .inl ⟨h,by omega,by omega⟩
theorem qFf (m:Int) {n:Int} (_:n≠0):(fq m n).natAbs≤m.natAbs+1:=by
 unfold fq
 split
 ·have:=Int.natAbs_ediv_le_natAbs m n;omega
 ·have:=Int.natAbs_ediv_le_natAbs (-m) (-n);omega
theorem qmp (m:Int) {n:Int} (hn:n≠0):n*m.tdiv n+q69 m n=m∧(q69 m n).natAbs<n.natAbs∧(0≤m→0≤q69 m n)∧(m≤0→q69 m n≤0):=by
 unfold q69
 refine ⟨Int.mul_tdiv_add_tmod m n,?_,fun h=>Int.tmod_nonneg n h,fun h=>?_⟩
 ·rw [Int.natAbs_tmod]
  exact Nat.mod_lt _ (by omega)
 ·have:=Int.tmod_nonneg n (show 0≤-m by omega)
  rw [Int.neg_tmod] at this
  omega
end Go.Eng

