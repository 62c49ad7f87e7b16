/- The code of the functions. -/

import Derived.Test.YtinbjdkibmkgbaaGreatDoorCnA11
import Derived.Test.YtinbjdkibmkgbaaGreatDoorProg
import Derived.KernelRfl
namespace Go.Proofs.YtinbjdkibmkgbaaGreatDoor.code
open Go.Proofs Go Go.Cn
set_option linter.unusedSimpArgs false
set_option linter.unusedVariables false
abbrev za (a:Nat)(b:Nat):MStep:=⟨some a,none,(.p (.mov (.tmp b)))⟩
abbrev zb (a:Nat)(b:Nat)(c:Nat):MStep:=⟨some a,none,(.p (.fa b (.tmp c)))⟩
abbrev zc (a:Nat)(b:Nat):MStep:=⟨some a,none,(.p (.ld1 (.tmp b)))⟩
abbrev zd (a:Nat)(b:Nat)(c:Nat):MStep:=⟨some a,none,(.p (.ldN b (.tmp c)))⟩
abbrev ze (a:Nat)(b:Nat)(c:Nat):MStep:=⟨none,none,(.fzN a b (.tmp c))⟩
abbrev zf (a:Nat)(b:Nat)(c:Nat):MStep:=⟨some a,none,(.call b [(.tmp c)])⟩
abbrev zg (a:Nat)(b:Nat)(c:Int):MStep:=⟨some a,none,(.p (.bin .add (.tmp b) (.const (.int .i64 c))))⟩
abbrev zh (a:Nat)(b:Nat):MStep:=⟨some a,none,(.p (.nilck (.tmp b)))⟩
abbrev zi (a:Nat)(b:Nat)(c:Nat):MStep:=⟨some a,none,(.p (.ext (.tmp b) c))⟩
abbrev zj (a:Nat)(b:Nat)(c:Nat)(d:Nat):MStep:=⟨some a,none,(.call b [(.tmp c),(.tmp d)])⟩
abbrev zk (a:Nat)(b:Int):MStep:=⟨some a,none,(.p (.mov (.const (.int .i64 b))))⟩
abbrev zl (a:Nat)(b:Nat)(c:Nat)(d:Nat)(e:Nat)(f:Nat):MStep:=⟨some a,none,(.oth (.e (.append b c d (.tmp e) (.tmp f))))⟩
abbrev zm (a:Nat)(b:Nat)(c:Nat)(d:Nat):MStep:=⟨some a,none,(.p (.ia b (.tmp c) (.tmp d)))⟩
abbrev zn (a:Nat)(b:Nat)(c:Nat):MStep:=⟨some a,none,(.p (.pick (.tmp b) (.tmp c) (.const (.bool false))))⟩
abbrev zo (a:Nat)(b:Nat)(c:Nat)(d:Int):MStep:=⟨some a,none,(.call b [(.tmp c),(.const (.int .i64 d))])⟩
abbrev zp (a:Nat)(b:Nat)(c:Nat):MStep:=⟨some a,(some (b,true)),(.p (.mov (.tmp c)))⟩
abbrev zq (a:Nat)(b:Nat):MStep:=⟨none,none,(.st1 (.tmp a) (.tmp b))⟩
abbrev zr (a:Nat)(b:Nat):MStep:=⟨some a,none,(.p (.lenV (.tmp b)))⟩
abbrev zs (a:Nat)(b:Nat)(c:Int):MStep:=⟨some a,none,(.p (.bin .eql (.tmp b) (.const (.int .i64 c))))⟩
abbrev zt (a:Nat)(b:Nat)(c:Nat):MStep:=⟨some a,none,(.p (.bin .lss (.tmp b) (.tmp c)))⟩
abbrev zu (a:Nat)(b:Nat)(c:Nat):MStep:=⟨some a,(some (b,true)),(.p (.ld1 (.tmp c)))⟩
abbrev zv (a:Nat)(b:Nat)(c:Nat):MStep:=⟨some a,none,(.p (.mov (.const (.slice none b c))))⟩
abbrev zw (a:Nat)(b:Nat)(c:Nat):MStep:=⟨some a,none,(.p (.pick (.tmp b) (.const (.bool true)) (.tmp c)))⟩
abbrev zx (a:Nat):MStep:=⟨some a,none,(.p (.mov (.const (.bool false))))⟩
abbrev zy (a:Nat)(b:Nat)(c:Nat):MStep:=⟨some a,none,(.box true b (.tmp c))⟩
abbrev zz (a:Nat)(b:Nat)(c:Nat)(d:Nat):MStep:=⟨some a,(some (b,true)),(.p (.fa c (.tmp d)))⟩
abbrev ya (a:Nat)(b:Nat)(c:Nat):MStep:=⟨some a,(some (b,false)),(.p (.mov (.tmp c)))⟩
abbrev yb (a:Nat):MStep:=⟨some a,none,(.p (.mov (.const .nilIface)))⟩
abbrev yc (a:Nat)(b:Nat)(c:Nat):MStep:=⟨none,none,(.stN a (.tmp b) (.tmp c))⟩
abbrev yd (a:Nat)(b:Nat)(c:Nat)(d:Nat)(e:Nat):MStep:=⟨some a,none,(.call b [(.tmp c),(.tmp d),(.tmp e)])⟩
abbrev ye (a:Nat)(b:Nat)(c:Int):MStep:=⟨some a,none,(.p (.bin .sub (.tmp b) (.const (.int .i64 c))))⟩
abbrev yf (a:Nat)(b:Nat):MStep:=⟨some a,none,(.p (.un .not (.tmp b)))⟩
abbrev yg (a:Nat)(b:Nat)(c:Nat):MStep:=⟨some a,(some (b,false)),(.p (.ld1 (.tmp c)))⟩
abbrev yh (a:Nat)(b:Nat)(c:Nat):MStep:=⟨some a,(some (b,true)),(.p (.nilck (.tmp c)))⟩
abbrev yi (a:Nat)(b:Nat)(c:Nat)(d:Nat):MStep:=⟨some a,(some (b,false)),(.p (.fa c (.tmp d)))⟩
abbrev yj (a:Nat)(b:Nat)(c:Int):MStep:=⟨some a,none,(.p (.bin .geq (.tmp b) (.const (.int .i64 c))))⟩
abbrev yk (a:Nat)(b:Nat)(c:Nat)(d:Int):MStep:=⟨some a,none,(.p (.ia b (.tmp c) (.const (.int .i64 d))))⟩
abbrev yl (a:Nat)(b:Nat)(c:Nat)(d:Nat)(e:Nat):MStep:=⟨some a,(some (b,true)),(.p (.ia c (.tmp d) (.tmp e)))⟩
abbrev ym (a:Nat)(b:Nat):MStep:=⟨some a,none,(.p (.isnil true .nilIface (.tmp b)))⟩
abbrev yn (a:Nat)(b:Nat)(c:Nat)(d:Nat)(e:Nat):MStep:=⟨some a,(some (b,true)),(.call c [(.tmp d),(.tmp e)])⟩
abbrev yo (a:Nat)(b:Nat):MStep:=⟨some a,none,(.p (.ld1 (.global b)))⟩
abbrev yp (a:Nat)(b:Nat)(c:Nat)(d:Nat)(e:Int):MStep:=⟨some a,(some (b,true)),(.p (.ia c (.tmp d) (.const (.int .i64 e))))⟩
abbrev yq (a:Nat)(b:Nat)(c:Int)(d:Int):MStep:=⟨some a,none,(.alloc b [(.int .i64 c),(.bool false),(.int .i64 d)])⟩
abbrev yr (a:Nat)(b:Nat)(c:Nat):MStep:=⟨some a,none,(.p (.bin .eql (.tmp b) (.tmp c)))⟩
abbrev ys (a:Nat)(b:Nat)(c:Int):MStep:=⟨some a,none,(.p (.bin .gtr (.tmp b) (.const (.int .i64 c))))⟩
abbrev yt (a:Nat)(b:Nat)(c:Nat):MStep:=⟨some a,(some (b,false)),(.p (.lenV (.tmp c)))⟩
abbrev yu (a:Nat)(b:Nat)(c:Nat)(d:Nat)(e:Nat)(f:Nat)(g:Nat)(h:Nat)(i:Nat)(j:Nat):MStep:=⟨some a,none,(.alloc b [(.slice none c d),(.slice none e f),(.slice none g h),(.slice none i j)])⟩
abbrev yv (a:Nat)(b:Nat)(c:Int):MStep:=⟨some a,none,(.p (.bin .eql (.tmp b) (.const (.int .u8 c))))⟩
abbrev yw (a:Nat)(b:Nat)(c:Nat)(d:Int):MStep:=⟨some a,(some (b,false)),(.p (.bin .eql (.tmp c) (.const (.int .u8 d))))⟩
abbrev yx (a:Nat)(b:Nat)(c:Nat):MStep:=⟨some a,none,(.box false b (.tmp c))⟩
abbrev yy (a:Nat)(b:Nat)(c:Nat)(d:Nat):MStep:=⟨some a,(some (b,true)),(.p (.ldN c (.tmp d)))⟩
abbrev yz (a:Nat)(b:Nat)(c:Nat)(d:Int)(e:Nat):MStep:=⟨some a,none,(.call b [(.tmp c),(.const (.int .i64 d)),(.tmp e)])⟩
abbrev xa (a:Nat)(b:Nat)(c:Nat):MStep:=⟨some a,none,(.ini false b [(.pointer none),(.map none)] (.tmp c))⟩
abbrev xb (a:Nat)(b:Nat)(c:Nat)(d:Nat):MStep:=⟨some a,(some (b,true)),(.p (.bin .eql (.tmp c) (.tmp d)))⟩
abbrev xc (a:Nat)(b:Int):MStep:=⟨some a,none,(.p (.mov (.const (.int .i64 (-b)))))⟩
abbrev xd (a:Nat)(b:Nat)(c:Nat):MStep:=⟨some a,none,(.call b [(.tmp c),(.const (.bool true))])⟩
abbrev xe (a:Nat)(b:Nat)(c:Nat)(d:Int):MStep:=⟨some a,(some (b,true)),(.p (.bin .add (.tmp c) (.const (.int .i64 d))))⟩
abbrev xf (a:Nat)(b:Nat)(c:Nat)(d:Int):MStep:=⟨some a,(some (b,true)),(.p (.bin .eql (.tmp c) (.const (.int .u8 d))))⟩
abbrev xg (a:Nat)(b:Nat)(c:Nat)(d:Int):MStep:=⟨some a,(some (b,true)),(.p (.bin .leq (.tmp c) (.const (.int .u8 d))))⟩
abbrev xh (a:Nat):MStep:=⟨some a,none,(.p (.mov (.const (.bool true))))⟩
abbrev xi (a:Nat)(b:Nat)(c:Nat)(d:Nat)(e:Int):MStep:=⟨some a,(some (b,false)),(.call c [(.tmp d),(.const (.int .i64 e))])⟩
abbrev xj (a:Nat)(b:Nat)(c:Nat):MStep:=⟨some a,none,(.p (.bin .add (.tmp b) (.tmp c)))⟩
abbrev xk (a:Nat)(b:Nat)(c:Nat)(d:Nat):MStep:=⟨some a,(some (b,false)),(.p (.bin .neq (.tmp c) (.tmp d)))⟩
abbrev xl (a:Nat)(b:Int):MStep:=⟨none,none,(.st1 (.tmp a) (.const (.int .i64 b)))⟩
abbrev xm (a:Nat)(b:Nat)(c:Int):MStep:=⟨some a,none,(.p (.bin .neq (.tmp b) (.const (.int .i64 c))))⟩
abbrev xn (a:Nat)(b:Nat)(c:Nat):MStep:=⟨some a,(some (b,true)),(.p (.lenV (.tmp c)))⟩
abbrev xo (a:Nat)(b:Nat):MStep:=⟨some a,none,(.call b [])⟩
abbrev xp (a:Nat)(b:Nat)(c:Nat)(d:Nat):MStep:=⟨some a,(some (b,true)),(.p (.bin .lss (.tmp c) (.tmp d)))⟩
abbrev xq (a:Nat)(b:Nat)(c:Nat)(d:Nat)(e:Nat):MStep:=⟨some a,(some (b,false)),(.p (.ia c (.tmp d) (.tmp e)))⟩
abbrev g0 (a:List MStep)(b:MCode):MCode:=.seq (.region a) b
abbrev g1 (a b:Nat):MCode:=.cond (.tmp a) .skip (.exit b)
abbrev g2 (a:Nat)(b c:MCode):MCode:=.cond (.tmp a) b c
noncomputable abbrev T:=tab Tryz.prog
noncomputable def s3_0:List MStep:=[zd 42 3 8,zd 43 3 9,zd 45 3 8,zd 46 9 12,zd 47 9 10,⟨(some 48),none,(.bsl 40 [(.int .i64 0),(.string ⟨⟨[]⟩⟩),(.int .i64 0),(.int .i64 0),(.string ⟨⟨[]⟩⟩),(.slice none 0 0),(.slice none 0 0),(.slice none 0 0),(.slice none 0 0)] 2 [(0,9,(.tmp 46)),(9,9,(.tmp 47))])⟩,⟨(some 49),none,(.p (.build [(.int .i64 0),(.string ⟨⟨[]⟩⟩),(.int .i64 0),(.int .i64 0),(.string ⟨⟨[]⟩⟩),(.slice none 0 0),(.slice none 0 0),(.slice none 0 0),(.slice none 0 0)] [(0,1,(.const (.int .i64 5))),(6,1,(.tmp 48))]))⟩,⟨(some 50),none,(.bsl 40 [(.int .i64 0),(.string ⟨⟨[]⟩⟩),(.int .i64 0),(.int .i64 0),(.string ⟨⟨[]⟩⟩),(.slice none 0 0),(.slice none 0 0),(.slice none 0 0),(.slice none 0 0)] 1 [(0,9,(.tmp 49))])⟩,⟨(some 51),none,(.p (.build [(.int .i64 0),(.string ⟨⟨[]⟩⟩),(.int .i64 0),(.int .i64 0),(.string ⟨⟨[]⟩⟩),(.slice none 0 0),(.slice none 0 0),(.slice none 0 0),(.slice none 0 0)] [(0,1,(.const (.int .i64 6))),(1,1,(.const (.string ⟨⟨[120]⟩⟩))),(3,3,(.tmp 45)),(6,1,(.tmp 50))]))⟩,⟨(some 13),none,(.alloc 43 [(.string ⟨⟨[]⟩⟩),(.int .i64 0),(.string ⟨⟨[]⟩⟩),(.slice none 0 0),(.int .i64 0),(.string ⟨⟨[]⟩⟩),(.int .i64 0),(.int .i64 0),(.string ⟨⟨[]⟩⟩),(.slice none 0 0),(.slice none 0 0),(.slice none 0 0),(.slice none 0 0)])⟩]
noncomputable def g3_0:List MStage:=[⟨zj 44 8 42 43,[⟨45,none,(.ldN 3 (.tmp 8))⟩,⟨46,none,(.ldN 9 (.tmp 12))⟩,⟨47,none,(.ldN 9 (.tmp 10))⟩],[⟨(some 52),none,(.p (.build [(.string ⟨⟨[]⟩⟩),(.int .i64 0),(.string ⟨⟨[]⟩⟩),(.slice none 0 0),(.int .i64 0),(.string ⟨⟨[]⟩⟩),(.int .i64 0),(.int .i64 0),(.string ⟨⟨[]⟩⟩),(.slice none 0 0),(.slice none 0 0),(.slice none 0 0),(.slice none 0 0)] [(0,1,(.const (.string ⟨⟨[112]⟩⟩))),(1,3,(.tmp 44)),(4,9,(.tmp 51))]))⟩]⟩,⟨ze 13 13 52,[],[]⟩]
theorem d3_0:okD s3_0 g3_0:=⟨by kernel_rfl,by kernel_rfl,by kernel_rfl,trivial⟩
noncomputable def s3_1:List MStep:=[zd 53 3 8,zd 54 3 9,zd 56 9 11,⟨(some 14),none,(.alloc 43 [(.string ⟨⟨[]⟩⟩),(.int .i64 0),(.string ⟨⟨[]⟩⟩),(.slice none 0 0),(.int .i64 0),(.string ⟨⟨[]⟩⟩),(.int .i64 0),(.int .i64 0),(.string ⟨⟨[]⟩⟩),(.slice none 0 0),(.slice none 0 0),(.slice none 0 0),(.slice none 0 0)])⟩]
noncomputable def g3_1:List MStage:=[⟨zj 55 8 53 54,[⟨56,none,(.ldN 9 (.tmp 11))⟩],[⟨(some 57),none,(.p (.build [(.string ⟨⟨[]⟩⟩),(.int .i64 0),(.string ⟨⟨[]⟩⟩),(.slice none 0 0),(.int .i64 0),(.string ⟨⟨[]⟩⟩),(.int .i64 0),(.int .i64 0),(.string ⟨⟨[]⟩⟩),(.slice none 0 0),(.slice none 0 0),(.slice none 0 0),(.slice none 0 0)] [(0,1,(.const (.string ⟨⟨[113]⟩⟩))),(1,3,(.tmp 55)),(4,9,(.tmp 56))]))⟩]⟩,⟨ze 13 14 57,[],[]⟩]
theorem d3_1:okD s3_1 g3_1:=⟨by kernel_rfl,by kernel_rfl,by kernel_rfl,trivial⟩
noncomputable def s3_2:List MStep:=[za 92 5,za 93 92,zp 94 93 17,⟨(some 95),(some (93,true)),(.p (.isnil false .nilIface (.tmp 94)))⟩,zn 96 93 95,za 97 96,yy 98 97 3 16,yy 99 97 3 9]
noncomputable def g3_2:List MStage:=[⟨yn 100 97 11 98 99,[],[zn 101 97 100,za 102 101,zp 103 102 19,⟨(some 104),(some (102,true)),(.p (.isnil false .nilIface (.tmp 103)))⟩,zn 105 102 104,za 106 105,yy 107 106 3 18,yy 108 106 3 8,yy 109 106 3 9]⟩,⟨yn 110 106 8 108 109,[⟨107,(some (106,true)),(.ldN 3 (.tmp 18))⟩],[]⟩,⟨yn 111 106 12 107 110,[],[zn 112 106 111,za 113 112,zp 114 113 20,⟨(some 115),(some (113,true)),(.p (.isnil false .nilIface (.tmp 114)))⟩,zn 116 113 115,za 117 116,zp 118 117 22,⟨(some 119),(some (117,true)),(.p (.isnil true .nilIface (.tmp 118)))⟩,zn 120 117 119]⟩,⟨za 4 120,[],[]⟩]
theorem d3_2:okD s3_2 g3_2:=⟨by kernel_rfl,by kernel_rfl,by kernel_rfl,by kernel_rfl,by kernel_rfl,trivial⟩
noncomputable def c3:MCode:=g0 [zx 4] (g0 [xo 23 4,za 5 23] (.seq (g0 [za 24 5,yf 25 24] (g2 25 (g0 [zx 4] (.ret)) (.skip))) (.seq (g0 [za 26 0,zr 27 26,ys 28 27 60] (g2 28 (g0 [za 29 5,za 4 29] (.ret)) (.skip))) (g0 [xo 31 5,za 30 31,zi 32 30 0,zi 33 30 1,za 6 32,za 7 33] (g0 [za 34 0,⟨(some 35),none,(.p (.build [(.slice none 0 0),(.int .i64 0)] [(0,1,(.tmp 34))]))⟩,yx 36 34 35,zo 37 6 36 2,⟨some 8,none,(.ini false 30 [(.int .i64 0),(.string ⟨⟨[]⟩⟩),(.slice none 0 0)] (.tmp 37))⟩] (g0 [⟨(some 38),none,(.call 7 [(.const (.string ⟨⟨[73,110,116]⟩⟩)),(.const (.slice none 0 0))])⟩,⟨some 9,none,(.ini false 30 [(.int .i64 0),(.string ⟨⟨[]⟩⟩),(.slice none 0 0)] (.tmp 38))⟩] (g0 [⟨(some 39),none,(.p (.build [(.int .i64 0),(.string ⟨⟨[]⟩⟩),(.int .i64 0),(.int .i64 0),(.string ⟨⟨[]⟩⟩),(.slice none 0 0),(.slice none 0 0),(.slice none 0 0),(.slice none 0 0)] [(0,1,(.const (.int .i64 1))),(1,1,(.const (.string ⟨⟨[120]⟩⟩)))]))⟩,⟨some 10,none,(.ini false 40 [(.int .i64 0),(.string ⟨⟨[]⟩⟩),(.int .i64 0),(.int .i64 0),(.string ⟨⟨[]⟩⟩),(.slice none 0 0),(.slice none 0 0),(.slice none 0 0),(.slice none 0 0)] (.tmp 39))⟩] (g0 [⟨(some 40),none,(.p (.build [(.int .i64 0),(.string ⟨⟨[]⟩⟩),(.int .i64 0),(.int .i64 0),(.string ⟨⟨[]⟩⟩),(.slice none 0 0),(.slice none 0 0),(.slice none 0 0),(.slice none 0 0)] [(0,1,(.const (.int .i64 1))),(1,1,(.const (.string ⟨⟨[112]⟩⟩)))]))⟩,⟨some 11,none,(.ini false 40 [(.int .i64 0),(.string ⟨⟨[]⟩⟩),(.int .i64 0),(.int .i64 0),(.string ⟨⟨[]⟩⟩),(.slice none 0 0),(.slice none 0 0),(.slice none 0 0),(.slice none 0 0)] (.tmp 40))⟩] (g0 [⟨(some 41),none,(.p (.build [(.int .i64 0),(.string ⟨⟨[]⟩⟩),(.int .i64 0),(.int .i64 0),(.string ⟨⟨[]⟩⟩),(.slice none 0 0),(.slice none 0 0),(.slice none 0 0),(.slice none 0 0)] [(0,1,(.const (.int .i64 1))),(1,1,(.const (.string ⟨⟨[113]⟩⟩)))]))⟩,⟨some 12,none,(.ini false 40 [(.int .i64 0),(.string ⟨⟨[]⟩⟩),(.int .i64 0),(.int .i64 0),(.string ⟨⟨[]⟩⟩),(.slice none 0 0),(.slice none 0 0),(.slice none 0 0),(.slice none 0 0)] (.tmp 41))⟩] (.seq (.dregion s3_0 g3_0) (.seq (.dregion s3_1 g3_1) (g0 [zd 58 13 13,zd 59 13 14,⟨(some 60),none,(.bsl 43 [(.string ⟨⟨[]⟩⟩),(.int .i64 0),(.string ⟨⟨[]⟩⟩),(.slice none 0 0),(.int .i64 0),(.string ⟨⟨[]⟩⟩),(.int .i64 0),(.int .i64 0),(.string ⟨⟨[]⟩⟩),(.slice none 0 0),(.slice none 0 0),(.slice none 0 0),(.slice none 0 0)] 2 [(0,13,(.tmp 58)),(13,13,(.tmp 59))])⟩,za 15 60] (.seq (g0 [za 61 1] (g2 61 (.region [zd 62 13 14,zd 63 13 13,⟨(some 64),none,(.bsl 43 [(.string ⟨⟨[]⟩⟩),(.int .i64 0),(.string ⟨⟨[]⟩⟩),(.slice none 0 0),(.int .i64 0),(.string ⟨⟨[]⟩⟩),(.int .i64 0),(.int .i64 0),(.string ⟨⟨[]⟩⟩),(.slice none 0 0),(.slice none 0 0),(.slice none 0 0),(.slice none 0 0)] 2 [(0,13,(.tmp 62)),(13,13,(.tmp 63))])⟩,za 15 64]) (.skip))) (g0 [za 66 6,za 67 15,zd 68 9 10,⟨(some 69),none,(.bsl 40 [(.int .i64 0),(.string ⟨⟨[]⟩⟩),(.int .i64 0),(.int .i64 0),(.string ⟨⟨[]⟩⟩),(.slice none 0 0),(.slice none 0 0),(.slice none 0 0),(.slice none 0 0)] 1 [(0,9,(.tmp 68))])⟩,⟨(some 70),none,(.p (.build [(.int .i64 0),(.string ⟨⟨[]⟩⟩),(.int .i64 0),(.int .i64 0),(.string ⟨⟨[]⟩⟩),(.slice none 0 0),(.slice none 0 0),(.slice none 0 0),(.slice none 0 0)] [(0,1,(.const (.int .i64 9))),(8,1,(.tmp 67)),(6,1,(.tmp 69))]))⟩,zj 71 9 66 70,za 65 71,zi 72 65 0,zi 73 65 1,⟨some 16,none,(.ini false 30 [(.int .i64 0),(.string ⟨⟨[]⟩⟩),(.slice none 0 0)] (.tmp 72))⟩,za 17 73] (g0 [za 75 6,za 76 15,zd 77 9 11,⟨(some 78),none,(.bsl 40 [(.int .i64 0),(.string ⟨⟨[]⟩⟩),(.int .i64 0),(.int .i64 0),(.string ⟨⟨[]⟩⟩),(.slice none 0 0),(.slice none 0 0),(.slice none 0 0),(.slice none 0 0)] 1 [(0,9,(.tmp 77))])⟩,⟨(some 79),none,(.p (.build [(.int .i64 0),(.string ⟨⟨[]⟩⟩),(.int .i64 0),(.int .i64 0),(.string ⟨⟨[]⟩⟩),(.slice none 0 0),(.slice none 0 0),(.slice none 0 0),(.slice none 0 0)] [(0,1,(.const (.int .i64 9))),(8,1,(.tmp 76)),(6,1,(.tmp 78))]))⟩,zj 80 9 75 79,za 74 80,zi 81 74 0,zi 82 74 1,⟨some 18,none,(.ini false 30 [(.int .i64 0),(.string ⟨⟨[]⟩⟩),(.slice none 0 0)] (.tmp 81))⟩,za 19 82] (g0 [za 83 6,za 84 15,zj 85 10 83 84,za 20 85] (g0 [za 87 6,zd 88 9 11,zj 89 9 87 88,za 86 89,zi 90 86 0,zi 91 86 1,⟨some 21,none,(.ini false 30 [(.int .i64 0),(.string ⟨⟨[]⟩⟩),(.slice none 0 0)] (.tmp 90))⟩,za 22 91] (.seq (.dregion s3_2 g3_2) (.ret)))))))))))))))))))
theorem t3:T 3=some ⟨c3.toC,[.tmp 4]⟩:=by kernel_rfl
noncomputable def c4:MCode:=g0 [zx 0] (g0 [xo 6 5,za 5 6,zi 7 5 0,zi 8 5 1,za 1 7,za 2 8] (g0 [za 10 1,⟨(some 11),none,(.p (.build [(.int .i64 0),(.string ⟨⟨[]⟩⟩),(.int .i64 0),(.int .i64 0),(.string ⟨⟨[]⟩⟩),(.slice none 0 0),(.slice none 0 0),(.slice none 0 0),(.slice none 0 0)] [(0,1,(.const (.int .i64 3)))]))⟩,zj 12 9 10 11,za 9 12,zi 13 9 0,zi 14 9 1,⟨some 3,none,(.ini false 30 [(.int .i64 0),(.string ⟨⟨[]⟩⟩),(.slice none 0 0)] (.tmp 13))⟩,za 4 14] (g0 [za 15 4,⟨(some 16),none,(.p (.isnil false .nilIface (.tmp 15)))⟩,za 17 16,zz 18 17 1 3,zu 19 17 18,⟨(some 20),(some (17,true)),(.p (.bin .eql (.tmp 19) (.const (.string ⟨⟨[73,110,116]⟩⟩))))⟩,zn 21 17 20,za 0 21] (.ret))))
theorem t4:T 4=some ⟨c4.toC,[.tmp 0]⟩:=by kernel_rfl
noncomputable def l5_0:MCode:=.seq (g0 [za 17 5,za 18 4,zr 19 18,zt 20 17 19] (g1 20 0)) (.seq (.block 1 (.region [za 23 3,za 24 4,za 25 5,zm 26 5 24 25,zd 27 5 26,zj 28 15 23 27])) (.region [za 21 5,zg 22 21 1,za 5 22]))
noncomputable def c5:MCode:=g0 [⟨(some 0),none,(.p (.mov (.const (.pointer none))))⟩,⟨(some 1),none,(.p (.mov (.const (.pointer none))))⟩] (g0 [⟨(some 9),none,(.p (.build [(.map none),(.map none)] []))⟩,yx 10 54 9,za 2 10] (g0 [⟨(some 11),none,(.p (.build [(.slice none 0 0),(.slice none 0 0)] []))⟩,yx 12 58 11,za 3 12] (g0 [xo 13 13,za 4 13] (g0 [za 14 2,za 15 4,zj 16 14 14 15] (.seq (g0 [zk 5 0] (.block 0 (.loop l5_0))) (g0 [⟨(some 29),none,(.call 7 [(.const (.string ⟨⟨[73,110,116]⟩⟩)),(.const (.slice none 0 0))])⟩,⟨some 6,none,(.ini false 30 [(.int .i64 0),(.string ⟨⟨[]⟩⟩),(.slice none 0 0)] (.tmp 29))⟩] (g0 [⟨(some 30),none,(.call 16 [(.const (.string ⟨⟨[97]⟩⟩))])⟩,⟨some 7,none,(.ini false 30 [(.int .i64 0),(.string ⟨⟨[]⟩⟩),(.slice none 0 0)] (.tmp 30))⟩] (g0 [zd 31 3 7,zd 32 3 7,zj 33 8 31 32,⟨(some 34),none,(.bsl 30 [(.int .i64 0),(.string ⟨⟨[]⟩⟩),(.slice none 0 0)] 1 [(0,3,(.tmp 33))])⟩,⟨(some 35),none,(.p (.build [(.int .i64 0),(.string ⟨⟨[]⟩⟩),(.slice none 0 0)] [(0,1,(.const (.int .i64 4))),(1,1,(.const (.string ⟨⟨[97]⟩⟩))),(2,1,(.tmp 34))]))⟩,⟨some 8,none,(.ini false 30 [(.int .i64 0),(.string ⟨⟨[]⟩⟩),(.slice none 0 0)] (.tmp 35))⟩] (g0 [za 36 2,zd 37 3 6,⟨(some 38),none,(.call 17 [(.tmp 36),(.const (.string ⟨⟨[120]⟩⟩)),(.tmp 37)])⟩] (g0 [za 39 3,zd 40 3 6,⟨(some 41),none,(.call 18 [(.tmp 39),(.const (.string ⟨⟨[120]⟩⟩)),(.tmp 40)])⟩] (g0 [za 42 2,zd 43 3 8,⟨(some 44),none,(.call 17 [(.tmp 42),(.const (.string ⟨⟨[121]⟩⟩)),(.tmp 43)])⟩] (g0 [za 45 3,zd 46 3 8,⟨(some 47),none,(.call 18 [(.tmp 45),(.const (.string ⟨⟨[121]⟩⟩)),(.tmp 46)])⟩] (g0 [za 48 2,za 49 3,za 0 48,za 1 49] (.ret))))))))))))))
theorem t5:T 5=some ⟨c5.toC,[.tmp 0,.tmp 1]⟩:=by kernel_rfl
noncomputable def s6_0:List MStep:=[zd 44 3 6,za 45 0,za 46 1,ye 47 46 1]
noncomputable def g6_0:List MStage:=[⟨zj 48 6 45 47,[⟨44,none,(.ldN 3 (.tmp 6))⟩],[⟨(some 49),none,(.bsl 30 [(.int .i64 0),(.string ⟨⟨[]⟩⟩),(.slice none 0 0)] 2 [(0,3,(.tmp 44)),(3,3,(.tmp 48))])⟩]⟩,⟨⟨(some 50),none,(.call 7 [(.const (.string ⟨⟨[80,97,105,114]⟩⟩)),(.tmp 49)])⟩,[],[]⟩,⟨ze 3 4 50,[],[]⟩]
theorem d6_0:okD s6_0 g6_0:=⟨by kernel_rfl,by kernel_rfl,by kernel_rfl,by kernel_rfl,trivial⟩
noncomputable def s6_1:List MStep:=[zd 55 3 7,za 56 0,za 57 1,ye 58 57 1]
noncomputable def g6_1:List MStage:=[⟨zj 59 6 56 58,[⟨55,none,(.ldN 3 (.tmp 7))⟩],[]⟩,⟨zj 60 8 55 59,[],[]⟩,⟨ze 3 4 60,[],[]⟩]
theorem d6_1:okD s6_1 g6_1:=⟨by kernel_rfl,by kernel_rfl,by kernel_rfl,by kernel_rfl,trivial⟩
noncomputable def c6:MCode:=g0 [⟨(some 4),none,(.alloc 30 [(.int .i64 0),(.string ⟨⟨[]⟩⟩),(.slice none 0 0)])⟩] (g0 [za 8 0,zo 9 19 8 9,za 5 9] (.seq (g0 [za 10 1,⟨(some 11),none,(.p (.bin .lss (.tmp 10) (.const (.int .i64 1))))⟩] (g2 11 (.region [za 12 5,⟨(some 13),none,(.p (.bin .rem (.tmp 12) (.const (.int .i64 5))))⟩,za 5 13]) (.skip))) (.seq (g0 [za 14 5] (.block 0 (.seq (g0 [zs 16 14 0,za 15 16] (g2 15 (.skip) (g0 [zs 17 14 1,za 15 17] (g2 15 (.skip) (.region [zs 18 14 2,za 15 18]))))) (g2 15 (g0 [⟨(some 19),none,(.bsl 9 [(.string ⟨⟨[]⟩⟩)] 3 [(0,1,(.const (.string ⟨⟨[97]⟩⟩))),(1,1,(.const (.string ⟨⟨[98]⟩⟩))),(2,1,(.const (.string ⟨⟨[99]⟩⟩)))])⟩,za 20 5,zm 21 1 19 20,zc 22 21,zf 23 16 22,ze 3 4 23] (.ret)) (g0 [zs 25 14 3,za 24 25] (g2 24 (g0 [⟨(some 26),none,(.call 7 [(.const (.string ⟨⟨[73,110,116]⟩⟩)),(.const (.slice none 0 0))])⟩,ze 3 4 26] (.ret)) (g0 [zs 28 14 4,za 27 28] (g2 27 (g0 [⟨(some 29),none,(.call 7 [(.const (.string ⟨⟨[66,111,111,108]⟩⟩)),(.const (.slice none 0 0))])⟩,ze 3 4 29] (.ret)) (g0 [zs 31 14 5,za 30 31] (g2 30 (g0 [za 32 0,za 33 1,ye 34 33 1,zj 35 6 32 34,⟨(some 36),none,(.bsl 30 [(.int .i64 0),(.string ⟨⟨[]⟩⟩),(.slice none 0 0)] 1 [(0,3,(.tmp 35))])⟩,⟨(some 37),none,(.call 7 [(.const (.string ⟨⟨[76,105,115,116]⟩⟩)),(.tmp 36)])⟩,ze 3 4 37] (.ret)) (g0 [zs 39 14 6,za 38 39] (g2 38 (g0 [za 40 0,za 41 1,ye 42 41 1,zj 43 6 40 42,⟨some 6,none,(.ini false 30 [(.int .i64 0),(.string ⟨⟨[]⟩⟩),(.slice none 0 0)] (.tmp 43))⟩] (.seq (.dregion s6_0 g6_0) (.ret))) (.skip))))))))))))) (g0 [za 51 0,za 52 1,ye 53 52 1,zj 54 6 51 53,⟨some 7,none,(.ini false 30 [(.int .i64 0),(.string ⟨⟨[]⟩⟩),(.slice none 0 0)] (.tmp 54))⟩] (.seq (.dregion s6_1 g6_1) (.ret))))))
theorem t6:T 6=some ⟨c6.toC,[.ldN 3 4]⟩:=by kernel_rfl
noncomputable def c7:MCode:=g0 [⟨(some 4),none,(.alloc 30 [(.int .i64 0),(.string ⟨⟨[]⟩⟩),(.slice none 0 0)])⟩] (g0 [za 5 0,za 6 1,⟨(some 7),none,(.p (.build [(.int .i64 0),(.string ⟨⟨[]⟩⟩),(.slice none 0 0)] [(0,1,(.const (.int .i64 2))),(1,1,(.tmp 5)),(2,1,(.tmp 6))]))⟩,ze 3 4 7] (.ret))
theorem t7:T 7=some ⟨c7.toC,[.ldN 3 4]⟩:=by kernel_rfl
noncomputable def c8:MCode:=g0 [zy 2 30 0,zy 3 30 1,⟨(some 4),none,(.alloc 30 [(.int .i64 0),(.string ⟨⟨[]⟩⟩),(.slice none 0 0)])⟩] (g0 [zd 5 3 2,zd 6 3 3,⟨(some 7),none,(.bsl 30 [(.int .i64 0),(.string ⟨⟨[]⟩⟩),(.slice none 0 0)] 2 [(0,3,(.tmp 5)),(3,3,(.tmp 6))])⟩,⟨(some 8),none,(.p (.build [(.int .i64 0),(.string ⟨⟨[]⟩⟩),(.slice none 0 0)] [(0,1,(.const (.int .i64 3))),(2,1,(.tmp 7))]))⟩,ze 3 4 8] (.ret))
theorem t8:T 8=some ⟨c8.toC,[.ldN 3 4]⟩:=by kernel_rfl
noncomputable def c9:MCode:=g0 [zy 3 40 1,⟨(some 4),none,(.alloc 30 [(.int .i64 0),(.string ⟨⟨[]⟩⟩),(.slice none 0 0)])⟩,yb 5] (g0 [za 9 0,⟨(some 10),none,(.p (.build [(.pointer none),(.map none)] [(0,1,(.tmp 9))]))⟩,zd 11 9 3,zj 12 20 10 11,za 8 12,zi 13 8 0,zi 14 8 1,⟨some 6,none,(.ini false 30 [(.int .i64 0),(.string ⟨⟨[]⟩⟩),(.slice none 0 0)] (.tmp 13))⟩,za 7 14] (.seq (g0 [za 15 7,ym 16 15] (g2 16 (g0 [⟨(some 17),none,(.p (.build [(.int .i64 0),(.string ⟨⟨[]⟩⟩),(.slice none 0 0)] []))⟩,za 18 7,ze 3 4 17,za 5 18] (.ret)) (.skip))) (g0 [zd 19 3 6,zf 20 21 19,ze 3 4 20,yb 5] (.ret))))
theorem t9:T 9=some ⟨c9.toC,[.ldN 3 4,.tmp 5]⟩:=by kernel_rfl
noncomputable def c10:MCode:=g0 [yb 4] (g0 [za 8 0,⟨(some 9),none,(.p (.build [(.pointer none),(.map none)] [(0,1,(.tmp 8))]))⟩,za 10 1,zj 11 22 9 10,za 7 11,zi 12 7 0,zi 13 7 1,xa 5 71 12,za 6 13] (g0 [za 14 6,za 4 14] (.ret)))
theorem t10:T 10=some ⟨c10.toC,[.tmp 4]⟩:=by kernel_rfl
noncomputable def c11:MCode:=g0 [zy 2 30 0,zy 3 30 1,zx 4] (g0 [zb 5 0 2,zc 6 5,zb 7 0 3,zc 8 7,yr 9 6 8,za 10 9,zz 11 10 1 2,zu 12 10 11,zz 13 10 1 3,zu 14 10 13,xb 15 10 12 14,zn 16 10 15,za 17 16,zz 18 17 2 2,zu 19 17 18,zz 20 17 2 3,zu 21 17 20,yn 22 17 23 19 21,zn 23 17 22,za 4 23] (.ret))
theorem t11:T 11=some ⟨c11.toC,[.tmp 4]⟩:=by kernel_rfl
noncomputable def c12:MCode:=g0 [zy 2 30 0,zy 3 30 1,zx 4] (g0 [zd 5 3 2,zd 6 3 3,⟨(some 7),none,(.call 24 [(.tmp 5),(.tmp 6),(.const (.slice none 0 0)),(.const (.slice none 0 0))])⟩,za 4 7] (.ret))
theorem t12:T 12=some ⟨c12.toC,[.tmp 4]⟩:=by kernel_rfl
noncomputable def c13:MCode:=g0 [zv 0 0 0] (g0 [⟨(some 4),none,(.oth (.a (.bsl 5 [(.int .u8 0)] 87 [(0,1,(.const (.int .u8 100))),(1,1,(.const (.int .u8 97))),(2,1,(.const (.int .u8 116))),(3,1,(.const (.int .u8 97))),(4,1,(.const (.int .u8 32))),(5,1,(.const (.int .u8 66))),(6,1,(.const (.int .u8 111))),(7,1,(.const (.int .u8 111))),(8,1,(.const (.int .u8 108))),(9,1,(.const (.int .u8 32))),(10,1,(.const (.int .u8 61))),(11,1,(.const (.int .u8 32))),(12,1,(.const (.int .u8 70))),(13,1,(.const (.int .u8 97))),(14,1,(.const (.int .u8 108))),(15,1,(.const (.int .u8 115))),(16,1,(.const (.int .u8 101))),(17,1,(.const (.int .u8 32))),(18,1,(.const (.int .u8 124))),(19,1,(.const (.int .u8 32))),(20,1,(.const (.int .u8 84))),(21,1,(.const (.int .u8 114))),(22,1,(.const (.int .u8 117))),(23,1,(.const (.int .u8 101))),(24,1,(.const (.int .u8 59))),(25,1,(.const (.int .u8 32))),(26,1,(.const (.int .u8 100))),(27,1,(.const (.int .u8 97))),(28,1,(.const (.int .u8 116))),(29,1,(.const (.int .u8 97))),(30,1,(.const (.int .u8 32))),(31,1,(.const (.int .u8 76))),(32,1,(.const (.int .u8 105))),(33,1,(.const (.int .u8 115))),(34,1,(.const (.int .u8 116))),(35,1,(.const (.int .u8 32))),(36,1,(.const (.int .u8 97))),(37,1,(.const (.int .u8 32))),(38,1,(.const (.int .u8 61))),(39,1,(.const (.int .u8 32))),(40,1,(.const (.int .u8 78))),(41,1,(.const (.int .u8 105))),(42,1,(.const (.int .u8 108))),(43,1,(.const (.int .u8 32))),(44,1,(.const (.int .u8 124))),(45,1,(.const (.int .u8 32))),(46,1,(.const (.int .u8 67))),(47,1,(.const (.int .u8 111))),(48,1,(.const (.int .u8 110))),(49,1,(.const (.int .u8 115))),(50,1,(.const (.int .u8 32))),(51,1,(.const (.int .u8 97))),(52,1,(.const (.int .u8 32))),(53,1,(.const (.int .u8 40))),(54,1,(.const (.int .u8 76))),(55,1,(.const (.int .u8 105))),(56,1,(.const (.int .u8 115))),(57,1,(.const (.int .u8 116))),(58,1,(.const (.int .u8 32))),(59,1,(.const (.int .u8 97))),(60,1,(.const (.int .u8 41))),(61,1,(.const (.int .u8 59))),(62,1,(.const (.int .u8 32))),(63,1,(.const (.int .u8 100))),(64,1,(.const (.int .u8 97))),(65,1,(.const (.int .u8 116))),(66,1,(.const (.int .u8 97))),(67,1,(.const (.int .u8 32))),(68,1,(.const (.int .u8 80))),(69,1,(.const (.int .u8 97))),(70,1,(.const (.int .u8 105))),(71,1,(.const (.int .u8 114))),(72,1,(.const (.int .u8 32))),(73,1,(.const (.int .u8 97))),(74,1,(.const (.int .u8 32))),(75,1,(.const (.int .u8 98))),(76,1,(.const (.int .u8 32))),(77,1,(.const (.int .u8 61))),(78,1,(.const (.int .u8 32))),(79,1,(.const (.int .u8 80))),(80,1,(.const (.int .u8 97))),(81,1,(.const (.int .u8 105))),(82,1,(.const (.int .u8 114))),(83,1,(.const (.int .u8 32))),(84,1,(.const (.int .u8 97))),(85,1,(.const (.int .u8 32))),(86,1,(.const (.int .u8 98)))])))⟩,⟨(some 5),none,(.oth (.e (.strish 5 (.tmp 4))))⟩,zf 6 25 5,za 3 6,zi 7 3 0,zi 8 3 1,yu 1 81 0 0 0 0 0 0 0 0,yq 2 83 0 0,ze 4 1 7,ze 3 2 8] (g0 [zb 9 0 1,zc 10 9,za 0 10] (.ret)))
theorem t13:T 13=some ⟨c13.toC,[.tmp 0]⟩:=by kernel_rfl
noncomputable def l14_0:MCode:=g0 [zt 21 20 19] (.seq (g1 21 2) (.seq (.block 3 (g0 [zm 22 1 18 20,zc 23 22,za 8 23] (.region [za 24 6,za 25 8,zf 26 26 25,⟨(some 27),none,(.bsl 30 [(.int .i64 0),(.string ⟨⟨[]⟩⟩),(.slice none 0 0)] 1 [(0,3,(.tmp 26))])⟩,zl 28 30 3 48 24 27,za 6 28]))) (.region [zg 29 20 1,za 20 29])))
noncomputable def s14_1:List MStep:=[za 37 0,zb 38 0 10,zc 39 38,zb 40 1 5,zc 41 40,zb 42 1 10,zc 43 42,zb 44 0 5,zc 45 44,za 46 6]
noncomputable def g14_1:List MStage:=[⟨zj 47 28 45 46,[⟨39,none,(.ld1 (.tmp 38))⟩,⟨41,none,(.ld1 (.tmp 40))⟩,⟨43,none,(.ld1 (.tmp 42))⟩],[⟨(some 48),none,(.p (.build [(.string ⟨⟨[]⟩⟩),(.slice none 0 0),(.slice none 0 0),(.int .i64 0),(.string ⟨⟨[]⟩⟩),(.slice none 0 0)] [(0,1,(.tmp 39)),(1,1,(.tmp 41)),(2,1,(.tmp 43)),(3,3,(.tmp 47))]))⟩,⟨(some 49),none,(.bsl 92 [(.string ⟨⟨[]⟩⟩),(.slice none 0 0),(.slice none 0 0),(.int .i64 0),(.string ⟨⟨[]⟩⟩),(.slice none 0 0)] 1 [(0,6,(.tmp 48))])⟩]⟩,⟨zj 50 27 37 49,[],[]⟩]
theorem d14_1:okD s14_1 g14_1:=⟨by kernel_rfl,by kernel_rfl,by kernel_rfl,trivial⟩
noncomputable def l14_2:MCode:=g0 [zt 34 33 32] (.seq (g1 34 4) (.seq (.block 5 (g0 [zm 35 2 31 33,zd 36 2 35,⟨some 10,none,(.ini false 88 [(.string ⟨⟨[]⟩⟩),(.slice none 0 0)] (.tmp 36))⟩] (.dregion s14_1 g14_1))) (.region [zg 51 33 1,za 33 51])))
noncomputable def l14_3:MCode:=g0 [zt 14 13 12] (.seq (g1 14 0) (.seq (.block 1 (g0 [zm 15 5 11 13,zd 16 5 15,⟨some 5,none,(.ini false 66 [(.string ⟨⟨[]⟩⟩),(.slice none 0 0),(.slice none 0 0),(.slice none 0 0),(.int .i64 0)] (.tmp 16))⟩] (g0 [zv 6 0 0] (.seq (g0 [zb 17 1 5,zc 18 17,zr 19 18,zk 20 0] (.block 2 (.loop l14_0))) (g0 [zb 30 2 5,zc 31 30,zr 32 31,zk 33 0] (.block 4 (.loop l14_2))))))) (.region [zg 52 13 1,za 13 52])))
noncomputable def c14:MCode:=g0 [za 11 1,zr 12 11,zk 13 0] (.block 0 (.loop l14_3))
theorem t14:T 14=some ⟨c14.toC,[]⟩:=by kernel_rfl
noncomputable def l15_0:MCode:=.seq (g0 [za 14 6,zb 15 1 3,zc 16 15,zr 17 16,zt 18 14 17] (g1 18 2)) (.seq (.block 3 (.region [za 21 5,zb 22 1 3,zc 23 22,za 24 6,zm 25 1 23 24,zc 26 25,zf 27 16 26,⟨(some 28),none,(.bsl 30 [(.int .i64 0),(.string ⟨⟨[]⟩⟩),(.slice none 0 0)] 1 [(0,3,(.tmp 27))])⟩,zl 29 30 3 48 21 28,za 5 29])) (.region [za 19 6,zg 20 19 1,za 6 20]))
noncomputable def s15_1:List MStep:=[za 30 0,zb 31 2 3,zc 32 31,za 33 4,zm 34 2 32 33,zb 35 0 34,zc 36 35,zb 37 1 3,zc 38 37,zb 39 2 3,zc 40 39,za 41 4,zm 42 2 40 41,zb 43 1 42,zc 44 43,zb 45 0 3,zc 46 45,za 47 5]
noncomputable def g15_1:List MStage:=[⟨zj 48 7 46 47,[⟨32,none,(.ld1 (.tmp 31))⟩,⟨36,none,(.ld1 (.tmp 35))⟩,⟨38,none,(.ld1 (.tmp 37))⟩,⟨40,none,(.ld1 (.tmp 39))⟩,⟨44,none,(.ld1 (.tmp 43))⟩],[⟨(some 49),none,(.p (.build [(.string ⟨⟨[]⟩⟩),(.slice none 0 0),(.slice none 0 0),(.int .i64 0),(.string ⟨⟨[]⟩⟩),(.slice none 0 0)] [(0,1,(.tmp 36)),(1,1,(.tmp 38)),(2,1,(.tmp 44)),(3,3,(.tmp 48))]))⟩]⟩,⟨zj 50 29 30 49,[],[]⟩]
theorem d15_1:okD s15_1 g15_1:=⟨by kernel_rfl,by kernel_rfl,by kernel_rfl,trivial⟩
noncomputable def l15_2:MCode:=.seq (g0 [za 7 4,zb 8 2 3,zc 9 8,zr 10 9,zt 11 7 10] (g1 11 0)) (.seq (.block 1 (g0 [zv 5 0 0] (.seq (g0 [zk 6 0] (.block 2 (.loop l15_0))) (.dregion s15_1 g15_1)))) (.region [za 12 4,zg 13 12 1,za 4 13]))
noncomputable def c15:MCode:=g0 [zy 3 66 1] (g0 [zk 4 0] (.block 0 (.loop l15_2)))
theorem t15:T 15=some ⟨c15.toC,[]⟩:=by kernel_rfl
noncomputable def c16:MCode:=g0 [⟨(some 2),none,(.alloc 30 [(.int .i64 0),(.string ⟨⟨[]⟩⟩),(.slice none 0 0)])⟩] (g0 [za 3 0,⟨(some 4),none,(.p (.build [(.int .i64 0),(.string ⟨⟨[]⟩⟩),(.slice none 0 0)] [(0,1,(.const (.int .i64 1))),(1,1,(.tmp 3))]))⟩,ze 3 2 4] (.ret))
theorem t16:T 16=some ⟨c16.toC,[.ldN 3 2]⟩:=by kernel_rfl
noncomputable def s17_0:List MStep:=[za 15 0,zh 16 15,zb 17 1 16,zc 18 17,za 19 1,zd 20 3 5]
noncomputable def g17_0:List MStage:=[⟨zf 21 21 20,[⟨18,none,(.ld1 (.tmp 17))⟩],[]⟩,⟨⟨none,none,(.mapupd true (.tmp 18) (.tmp 19) (.tmp 21))⟩,[],[]⟩]
theorem d17_0:okD s17_0 g17_0:=⟨by kernel_rfl,by kernel_rfl,by kernel_rfl,trivial⟩
noncomputable def c17:MCode:=g0 [zy 5 30 2] (.seq (g0 [za 6 0,zh 7 6,zb 8 1 7,zc 9 8,⟨(some 10),none,(.p (.isnil false (.map none) (.tmp 9)))⟩] (g2 10 (.region [za 11 0,⟨(some 12),none,.mkmap⟩,zh 13 11,zb 14 1 13,zq 14 12]) (.skip))) (.dregion s17_0 g17_0))
theorem t17:T 17=some ⟨c17.toC,[]⟩:=by kernel_rfl
noncomputable def s18_0:List MStep:=[za 6 0,⟨(some 7),none,(.oth (.a (.bsl 96 [(.string ⟨⟨[]⟩⟩),(.int .i64 0),(.string ⟨⟨[]⟩⟩),(.slice none 0 0)] 0 [])))⟩,za 8 0,zh 9 8,zb 10 1 9,zc 11 10,za 13 1,zd 14 3 5,⟨(some 15),none,(.p (.build [(.string ⟨⟨[]⟩⟩),(.int .i64 0),(.string ⟨⟨[]⟩⟩),(.slice none 0 0)] [(0,1,(.tmp 13)),(1,3,(.tmp 14))]))⟩,⟨(some 16),none,(.bsl 96 [(.string ⟨⟨[]⟩⟩),(.int .i64 0),(.string ⟨⟨[]⟩⟩),(.slice none 0 0)] 1 [(0,4,(.tmp 15))])⟩]
noncomputable def g18_0:List MStage:=[⟨zl 12 96 4 64 7 11,[⟨14,none,(.ldN 3 (.tmp 5))⟩],[]⟩,⟨zl 17 96 4 64 12 16,[],[zh 18 6,zb 19 1 18]⟩,⟨zq 19 17,[],[]⟩]
theorem d18_0:okD s18_0 g18_0:=⟨by kernel_rfl,by kernel_rfl,by kernel_rfl,by kernel_rfl,trivial⟩
noncomputable def c18:MCode:=g0 [zy 5 30 2] (.dregion s18_0 g18_0)
theorem t18:T 18=some ⟨c18.toC,[]⟩:=by kernel_rfl
noncomputable def s19_0:List MStep:=[za 6 0,zh 7 6,zb 8 1 7,zc 9 8,za 10 0,zh 11 10,zb 12 0 11,zc 13 12,zr 14 13,zt 15 9 14]
noncomputable def g19_0:List MStage:=[]
theorem d19_0:okD s19_0 g19_0:=⟨by kernel_rfl,trivial⟩
noncomputable def s19_1:List MStep:=[za 16 0,zh 17 16,zb 18 0 17,zc 19 18,za 20 0,zh 21 20,zb 22 1 21,zc 23 22,zm 24 1 19 23,zc 25 24]
noncomputable def g19_1:List MStage:=[⟨za 5 25,[],[]⟩]
theorem d19_1:okD s19_1 g19_1:=⟨by kernel_rfl,by kernel_rfl,trivial⟩
noncomputable def c19:MCode:=g0 [zk 4 0] (g0 [zk 5 0] (.seq (.seq (.dregion s19_0 g19_0) (g2 15 (.dregion s19_1 g19_1) (.skip))) (g0 [za 26 0,za 27 0,zh 28 27,zb 29 1 28,zc 30 29,zg 31 30 1,zh 32 26,zb 33 1 32,zq 33 31] (g0 [za 34 5,za 35 1,zj 36 30 34 35,za 4 36] (.ret)))))
theorem t19:T 19=some ⟨c19.toC,[.tmp 4]⟩:=by kernel_rfl
noncomputable def s20_0:List MStep:=[⟨(some 46),none,(.p (.build [(.int .i64 0),(.string ⟨⟨[]⟩⟩),(.slice none 0 0)] []))⟩,yo 47 0]
noncomputable def g20_0:List MStage:=[⟨ze 3 4 46,[⟨47,none,(.ld1 (.global 0))⟩],[]⟩,⟨za 5 47,[],[]⟩]
noncomputable def s20_1:List MStep:=[zd 89 2 9,zd 90 9 3]
noncomputable def g20_1:List MStage:=[⟨zo 91 38 90 0,[⟨89,none,(.ldN 2 (.tmp 9))⟩],[]⟩,⟨zj 92 20 89 91,[],[zi 93 92 0,zi 94 92 1]⟩,⟨ze 3 4 93,[],[]⟩,⟨za 5 94,[],[]⟩]
theorem d20_1:okD s20_1 g20_1:=⟨by kernel_rfl,by kernel_rfl,by kernel_rfl,by kernel_rfl,by kernel_rfl,trivial⟩
noncomputable def s20_2:List MStep:=[⟨(some 102),none,(.p (.build [(.int .i64 0),(.string ⟨⟨[]⟩⟩),(.slice none 0 0)] []))⟩,yo 103 0]
noncomputable def g20_2:List MStage:=[⟨ze 3 4 102,[⟨103,none,(.ld1 (.global 0))⟩],[]⟩,⟨za 5 103,[],[]⟩]
noncomputable def c20:MCode:=g0 [zy 2 71 0,zy 3 40 1,⟨(some 4),none,(.alloc 30 [(.int .i64 0),(.string ⟨⟨[]⟩⟩),(.slice none 0 0)])⟩,yb 5] (.seq (g0 [zb 11 0 3,zc 12 11] (.block 0 (g0 [zs 14 12 1,za 13 14] (g2 13 (g0 [zd 15 2 2,zb 16 1 3,zc 17 16,zj 18 31 15 17,zi 19 18 0,zi 20 18 1,ze 3 4 19,za 5 20] (.ret)) (g0 [zs 22 12 2,za 21 22] (g2 21 (g0 [zd 23 2 2,zb 24 1 3,zc 25 24,zj 26 32 23 25,zi 27 26 0,zi 28 26 1,ze 3 4 27,za 5 28] (.ret)) (g0 [zs 30 12 3,za 29 30] (g2 29 (g0 [⟨(some 31),none,(.call 28 [(.const (.string ⟨⟨[73,110,116]⟩⟩)),(.const (.slice none 0 0))])⟩,ze 3 4 31,yb 5] (.ret)) (g0 [zs 33 12 4,za 32 33] (g2 32 (g0 [⟨(some 34),none,(.call 28 [(.const (.string ⟨⟨[67,104,97,114]⟩⟩)),(.const (.slice none 0 0))])⟩,ze 3 4 34,yb 5] (.ret)) (g0 [zs 36 12 11,za 35 36] (g2 35 (.seq (g0 [zb 38 1 3,zc 39 38,zf 40 33 39,za 37 40,zi 41 37 0,zi 42 37 1,zi 43 37 2,⟨some 6,none,(.ini false 30 [(.int .i64 0),(.string ⟨⟨[]⟩⟩),(.slice none 0 0)] (.tmp 41))⟩,za 7 42,za 8 43] (g0 [za 44 8] (g2 44 (g0 [zd 45 3 6,ze 3 4 45,yb 5] (.ret)) (.skip)))) (.seq (.dregion s20_0 g20_0) (.ret))) (g0 [zs 49 12 5,za 48 49] (g2 48 (g0 [zd 50 2 2,zd 51 9 3,zj 52 34 50 51,zi 53 52 0,zi 54 52 1,ze 3 4 53,za 5 54] (.ret)) (g0 [zs 56 12 6,za 55 56] (g2 55 (g0 [zd 57 2 2,zd 58 9 3,zj 59 35 57 58,zi 60 59 0,zi 61 59 1,ze 3 4 60,za 5 61] (.ret)) (g0 [zs 63 12 7,za 62 63] (g2 62 (g0 [zd 64 2 2,zd 65 9 3,zj 66 36 64 65,zi 67 66 0,zi 68 66 1,ze 3 4 67,za 5 68] (.ret)) (g0 [zs 70 12 8,za 69 70] (g2 69 (g0 [zd 71 2 2,zd 72 9 3,zj 73 37 71 72,zi 74 73 0,zi 75 73 1,ze 3 4 74,za 5 75] (.ret)) (g0 [zs 77 12 9,za 76 77] (g2 76 (g0 [zd 79 2 2,zb 80 8 3,zc 81 80,zj 82 22 79 81,za 78 82,zi 83 78 0,zi 84 78 1,xa 9 71 83,za 10 84] (.seq (g0 [za 85 10,ym 86 85] (g2 86 (g0 [⟨(some 87),none,(.p (.build [(.int .i64 0),(.string ⟨⟨[]⟩⟩),(.slice none 0 0)] []))⟩,za 88 10,ze 3 4 87,za 5 88] (.ret)) (.skip))) (.seq (.dregion s20_1 g20_1) (.ret)))) (g0 [zs 96 12 10,za 95 96] (g2 95 (g0 [zd 97 2 2,zd 98 9 3,zj 99 39 97 98,zi 100 99 0,zi 101 99 1,ze 3 4 100,za 5 101] (.ret)) (.skip))))))))))))))))))))))))) (.seq (.dregion s20_2 g20_2) (.ret)))
theorem t20:T 20=some ⟨c20.toC,[.ldN 3 4,.tmp 5]⟩:=by kernel_rfl
noncomputable def s21_0:List MStep:=[zb 18 2 3,zc 19 18,zd 20 3 5]
noncomputable def g21_0:List MStage:=[⟨zf 21 21 20,[⟨19,none,(.ld1 (.tmp 18))⟩],[⟨(some 22),none,(.bsl 30 [(.int .i64 0),(.string ⟨⟨[]⟩⟩),(.slice none 0 0)] 1 [(0,3,(.tmp 21))])⟩]⟩,⟨zl 23 30 3 48 19 22,[],[zb 24 2 3]⟩,⟨zq 24 23,[],[]⟩]
theorem d21_0:okD s21_0 g21_0:=⟨by kernel_rfl,by kernel_rfl,by kernel_rfl,by kernel_rfl,trivial⟩
noncomputable def l21_1:MCode:=g0 [zt 15 14 13] (.seq (g1 15 0) (.seq (.block 1 (g0 [zm 16 3 12 14,zd 17 3 16,⟨some 5,none,(.ini false 30 [(.int .i64 0),(.string ⟨⟨[]⟩⟩),(.slice none 0 0)] (.tmp 17))⟩] (.dregion s21_0 g21_0))) (.region [zg 25 14 1,za 14 25])))
noncomputable def c21:MCode:=g0 [zy 1 30 0,⟨(some 2),none,(.alloc 30 [(.int .i64 0),(.string ⟨⟨[]⟩⟩),(.slice none 0 0)])⟩] (g0 [zb 6 0 1,zc 7 6,zb 8 1 1,zc 9 8,⟨(some 10),none,(.p (.build [(.int .i64 0),(.string ⟨⟨[]⟩⟩),(.slice none 0 0)] [(0,1,(.tmp 7)),(1,1,(.tmp 9))]))⟩,⟨(some 3),none,(.alloc 30 [(.int .i64 0),(.string ⟨⟨[]⟩⟩),(.slice none 0 0)])⟩,yc 3 3 10] (.seq (g0 [zb 11 2 1,zc 12 11,zr 13 12,zk 14 0] (.block 0 (.loop l21_1))) (g0 [zd 26 3 3,ze 3 2 26] (.ret))))
theorem t21:T 21=some ⟨c21.toC,[.ldN 3 2]⟩:=by kernel_rfl
noncomputable def s22_0:List MStep:=[zd 25 2 2,yo 26 1]
noncomputable def g22_0:List MStage:=[⟨ze 2 4 25,[⟨26,none,(.ld1 (.global 1))⟩],[]⟩,⟨za 5 26,[],[]⟩]
noncomputable def s22_1:List MStep:=[za 27 6,zb 28 0 9,zc 29 28,⟨(some 30),none,(.bsl 9 [(.string ⟨⟨[]⟩⟩)] 1 [(0,1,(.tmp 29))])⟩,za 32 7,zb 33 1 9,zd 34 3 33,⟨(some 35),none,(.bsl 30 [(.int .i64 0),(.string ⟨⟨[]⟩⟩),(.slice none 0 0)] 1 [(0,3,(.tmp 34))])⟩]
noncomputable def g22_1:List MStage:=[⟨zl 31 9 1 16 27 30,[⟨34,none,(.ldN 3 (.tmp 33))⟩],[]⟩,⟨zl 36 30 3 48 32 35,[],[]⟩,⟨za 6 31,[],[]⟩,⟨za 7 36,[],[]⟩]
theorem d22_1:okD s22_1 g22_1:=⟨by kernel_rfl,by kernel_rfl,by kernel_rfl,by kernel_rfl,by kernel_rfl,trivial⟩
noncomputable def l22_2:MCode:=g0 [zt 18 17 16] (.seq (g1 18 0) (.seq (.block 1 (g0 [zm 19 13 15 17,zd 20 13 19,⟨some 9,none,(.ini false 43 [(.string ⟨⟨[]⟩⟩),(.int .i64 0),(.string ⟨⟨[]⟩⟩),(.slice none 0 0),(.int .i64 0),(.string ⟨⟨[]⟩⟩),(.int .i64 0),(.int .i64 0),(.string ⟨⟨[]⟩⟩),(.slice none 0 0),(.slice none 0 0),(.slice none 0 0),(.slice none 0 0)] (.tmp 20))⟩] (.seq (g0 [za 21 6,zb 22 0 9,zc 23 22,zj 24 40 21 23] (g2 24 (.seq (.dregion s22_0 g22_0) (.ret)) (.skip))) (.dregion s22_1 g22_1)))) (.region [zg 37 17 1,za 17 37])))
noncomputable def s22_3:List MStep:=[zd 64 2 2,yo 65 2]
noncomputable def g22_3:List MStage:=[⟨ze 2 4 64,[⟨65,none,(.ld1 (.global 2))⟩],[]⟩,⟨za 5 65,[],[]⟩]
noncomputable def l22_4:MCode:=g0 [zt 45 44 43] (.seq (g1 45 2) (.seq (.block 3 (g0 [zm 46 13 42 44,zd 47 13 46,⟨some 12,none,(.ini false 43 [(.string ⟨⟨[]⟩⟩),(.int .i64 0),(.string ⟨⟨[]⟩⟩),(.slice none 0 0),(.int .i64 0),(.string ⟨⟨[]⟩⟩),(.int .i64 0),(.int .i64 0),(.string ⟨⟨[]⟩⟩),(.slice none 0 0),(.slice none 0 0),(.slice none 0 0),(.slice none 0 0)] (.tmp 47))⟩] (g0 [zd 49 2 10,zb 50 4 12,zd 51 9 50,zj 52 20 49 51,za 48 52,zi 53 48 0,zi 54 48 1,⟨some 13,none,(.ini false 30 [(.int .i64 0),(.string ⟨⟨[]⟩⟩),(.slice none 0 0)] (.tmp 53))⟩,za 14 54] (.seq (g0 [za 55 14,ym 56 55] (g2 56 (g0 [zd 57 2 2,za 58 14,ze 2 4 57,za 5 58] (.ret)) (.skip))) (g0 [zd 59 3 13,zb 60 1 12,zd 61 3 60,zj 62 12 59 61,yf 63 62] (g2 63 (.seq (.dregion s22_3 g22_3) (.ret)) (.skip))))))) (.region [zg 66 44 1,za 44 66])))
noncomputable def c22:MCode:=g0 [zy 2 71 0,⟨(some 4),none,(.alloc 71 [(.pointer none),(.map none)])⟩,yb 5] (g0 [zv 6 0 0] (g0 [zv 7 0 0] (.seq (g0 [za 15 1,zr 16 15,zk 17 0] (.block 0 (.loop l22_2))) (g0 [zd 38 2 2,za 39 6,za 40 7,yd 41 41 38 39 40,xa 10 71 41] (.seq (g0 [za 42 1,zr 43 42,zk 44 0] (.block 2 (.loop l22_4))) (g0 [zd 67 2 10,ze 2 4 67,yb 5] (.ret)))))))
theorem t22:T 22=some ⟨c22.toC,[.ldN 2 4,.tmp 5]⟩:=by kernel_rfl
noncomputable def s23_0:List MStep:=[za 18 0,za 19 5,zm 20 3 18 19,zd 21 3 20,za 22 1,za 23 5,zm 24 3 22 23,zd 25 3 24]
noncomputable def g23_0:List MStage:=[⟨zj 26 11 21 25,[],[]⟩,⟨za 6 26,[],[]⟩]
noncomputable def l23_1:MCode:=.seq (g0 [za 12 5,za 13 0,zr 14 13,zt 15 12 14] (g1 15 0)) (.seq (.block 1 (.seq (.dregion s23_0 g23_0) (g0 [za 27 6,yf 28 27] (g2 28 (g0 [zx 4] (.ret)) (.skip))))) (.region [za 16 5,zg 17 16 1,za 5 17]))
noncomputable def c23:MCode:=g0 [zx 4] (.seq (g0 [za 7 0,zr 8 7,za 9 1,zr 10 9,⟨(some 11),none,(.p (.bin .neq (.tmp 8) (.tmp 10)))⟩] (g2 11 (g0 [zx 4] (.ret)) (.skip))) (.seq (g0 [zk 5 0] (.block 0 (.loop l23_1))) (g0 [xh 4] (.ret))))
theorem t23:T 23=some ⟨c23.toC,[.tmp 4]⟩:=by kernel_rfl
noncomputable def s24_0:List MStep:=[za 35 2,zb 36 1 4,zc 37 36,za 39 3,zb 40 1 5,zc 41 40]
noncomputable def g24_0:List MStage:=[⟨zj 38 42 35 37,[⟨41,none,(.ld1 (.tmp 40))⟩],[]⟩,⟨zj 42 42 39 41,[],[]⟩,⟨za 9 38,[],[]⟩,⟨za 10 42,[],[]⟩]
theorem d24_0:okD s24_0 g24_0:=⟨by kernel_rfl,by kernel_rfl,by kernel_rfl,by kernel_rfl,by kernel_rfl,trivial⟩
noncomputable def s24_1:List MStep:=[za 59 2,zb 61 1 4,zc 62 61,⟨(some 63),none,(.bsl 9 [(.string ⟨⟨[]⟩⟩)] 1 [(0,1,(.tmp 62))])⟩,za 65 3,zb 67 1 5,zc 68 67,⟨(some 69),none,(.bsl 9 [(.string ⟨⟨[]⟩⟩)] 1 [(0,1,(.tmp 68))])⟩]
noncomputable def g24_1:List MStage:=[⟨zf 60 43 59,[⟨62,none,(.ld1 (.tmp 61))⟩,⟨68,none,(.ld1 (.tmp 67))⟩],[]⟩,⟨zl 64 9 1 16 60 63,[⟨68,none,(.ld1 (.tmp 67))⟩],[]⟩,⟨zf 66 43 65,[⟨68,none,(.ld1 (.tmp 67))⟩],[]⟩,⟨zl 70 9 1 16 66 69,[],[]⟩,⟨za 2 64,[],[]⟩,⟨za 3 70,[],[]⟩]
noncomputable def s24_2:List MStep:=[zb 77 2 4,zc 78 77,za 79 11,zm 80 3 78 79,zd 81 3 80,zb 82 2 5,zc 83 82,za 84 11,zm 85 3 83 84,zd 86 3 85,za 87 2,za 88 3]
noncomputable def g24_2:List MStage:=[⟨⟨(some 89),none,(.call 24 [(.tmp 81),(.tmp 86),(.tmp 87),(.tmp 88)])⟩,[],[yf 90 89]⟩]
theorem d24_2:okD s24_2 g24_2:=⟨by kernel_rfl,by kernel_rfl,trivial⟩
noncomputable def l24_3:MCode:=g0 [zt 75 74 73] (.seq (g1 75 1) (.seq (.block 2 (g0 [za 76 74,za 11 76] (.seq (.dregion s24_2 g24_2) (g2 90 (g0 [zx 8] (.ret)) (.skip))))) (.region [zg 91 74 1,za 74 91])))
noncomputable def c24:MCode:=g0 [zy 4 30 0,zy 5 30 1,zx 8] (.seq (g0 [zb 12 0 4,zc 13 12,zb 14 0 5,zc 15 14,⟨(some 16),none,(.p (.bin .neq (.tmp 13) (.tmp 15)))⟩,za 17 16,yi 18 17 2 4,yg 19 17 18,yt 20 17 19,yi 21 17 2 5,yg 22 17 21,yt 23 17 22,xk 24 17 20 23,zw 25 17 24] (g2 25 (g0 [zx 8] (.ret)) (.skip))) (.seq (g0 [zb 26 0 4,zc 27 26] (.block 0 (g0 [zs 34 27 1,za 33 34] (g2 33 (.seq (.dregion s24_0 g24_0) (g0 [za 43 9,za 44 10,yr 45 43 44,za 46 45,zp 47 46 9,⟨(some 48),(some (46,true)),(.p (.bin .geq (.tmp 47) (.const (.int .i64 0))))⟩,zp 49 46 48,yi 50 49 1 4,yg 51 49 50,yi 52 49 1 5,yg 53 49 52,⟨(some 54),(some (49,false)),(.p (.bin .eql (.tmp 51) (.tmp 53)))⟩,⟨(some 55),(some (46,true)),(.p (.pick (.tmp 49) (.const (.bool true)) (.tmp 54)))⟩,zn 56 46 55,za 8 56] (.ret))) (g0 [zs 58 27 4,za 57 58] (g2 57 (.dregion s24_1 g24_1) (g0 [zb 28 1 4,zc 29 28,zb 30 1 5,zc 31 30,⟨(some 32),none,(.p (.bin .neq (.tmp 29) (.tmp 31)))⟩] (g2 32 (g0 [zx 8] (.ret)) (.skip))))))))) (.seq (g0 [zb 71 2 4,zc 72 71,zr 73 72,zk 74 0] (.block 1 (.loop l24_3))) (g0 [xh 8] (.ret)))))
theorem t24:T 24=some ⟨c24.toC,[.tmp 8]⟩:=by kernel_rfl
noncomputable def s25_0:List MStep:=[⟨(some 16),none,(.p (.build [(.slice none 0 0),(.slice none 0 0),(.slice none 0 0),(.slice none 0 0)] []))⟩,zd 17 3 6]
noncomputable def g25_0:List MStage:=[⟨ze 4 2 16,[⟨17,none,(.ldN 3 (.tmp 6))⟩],[]⟩,⟨ze 3 3 17,[],[]⟩]
theorem d25_0:okD s25_0 g25_0:=⟨by kernel_rfl,by kernel_rfl,by kernel_rfl,trivial⟩
noncomputable def s25_1:List MStep:=[zd 18 4 5,zd 19 3 6]
noncomputable def g25_1:List MStage:=[⟨ze 4 2 18,[⟨19,none,(.ldN 3 (.tmp 6))⟩],[]⟩,⟨ze 3 3 19,[],[]⟩]
theorem d25_1:okD s25_1 g25_1:=⟨by kernel_rfl,by kernel_rfl,by kernel_rfl,trivial⟩
noncomputable def c25:MCode:=g0 [yu 2 81 0 0 0 0 0 0 0 0,yq 3 83 0 0] (g0 [za 7 0,zf 8 44 7,za 4 8] (g0 [za 9 4,zf 10 45 9,⟨some 5,none,(.ini false 81 [(.slice none 0 0),(.slice none 0 0),(.slice none 0 0),(.slice none 0 0)] (.tmp 10))⟩] (g0 [za 11 4,zf 12 46 11,⟨some 6,none,(.ini false 83 [(.int .i64 0),(.bool false),(.int .i64 0)] (.tmp 12))⟩] (.seq (g0 [zb 13 0 6,zc 14 13,xm 15 14 0] (g2 15 (.seq (.dregion s25_0 g25_0) (.ret)) (.skip))) (.seq (.dregion s25_1 g25_1) (.ret))))))
theorem t25:T 25=some ⟨c25.toC,[.ldN 4 2,.ldN 3 3]⟩:=by kernel_rfl
noncomputable def c26:MCode:=g0 [⟨(some 2),none,(.alloc 30 [(.int .i64 0),(.string ⟨⟨[]⟩⟩),(.slice none 0 0)])⟩] (g0 [za 3 0,⟨(some 4),none,(.p (.build [(.int .i64 0),(.string ⟨⟨[]⟩⟩),(.slice none 0 0)] [(0,1,(.const (.int .i64 1))),(1,1,(.tmp 3))]))⟩,ze 3 2 4] (.ret))
theorem t26:T 26=some ⟨c26.toC,[.ldN 3 2]⟩:=by kernel_rfl
noncomputable def s27_0:List MStep:=[zb 24 0 5,zc 25 24,zb 26 1 5,zc 27 26,zb 29 3 5,zd 30 3 29,⟨(some 6),none,(.alloc 92 [(.string ⟨⟨[]⟩⟩),(.slice none 0 0),(.slice none 0 0),(.int .i64 0),(.string ⟨⟨[]⟩⟩),(.slice none 0 0)])⟩]
noncomputable def g27_0:List MStage:=[⟨zf 28 43 27,[⟨25,none,(.ld1 (.tmp 24))⟩,⟨30,none,(.ldN 3 (.tmp 29))⟩],[]⟩,⟨zf 31 21 30,[⟨25,none,(.ld1 (.tmp 24))⟩],[⟨(some 32),none,(.p (.build [(.string ⟨⟨[]⟩⟩),(.slice none 0 0),(.slice none 0 0),(.int .i64 0),(.string ⟨⟨[]⟩⟩),(.slice none 0 0)] [(0,1,(.tmp 25)),(1,1,(.tmp 28)),(3,3,(.tmp 31))]))⟩]⟩,⟨yc 6 6 32,[],[]⟩]
theorem d27_0:okD s27_0 g27_0:=⟨by kernel_rfl,by kernel_rfl,by kernel_rfl,by kernel_rfl,trivial⟩
noncomputable def s27_1:List MStep:=[zb 40 2 6,zc 41 40,zd 42 3 8]
noncomputable def g27_1:List MStage:=[⟨zf 43 21 42,[⟨41,none,(.ld1 (.tmp 40))⟩],[⟨(some 44),none,(.bsl 30 [(.int .i64 0),(.string ⟨⟨[]⟩⟩),(.slice none 0 0)] 1 [(0,3,(.tmp 43))])⟩]⟩,⟨zl 45 30 3 48 41 44,[],[zb 46 2 6]⟩,⟨zq 46 45,[],[]⟩]
theorem d27_1:okD s27_1 g27_1:=⟨by kernel_rfl,by kernel_rfl,by kernel_rfl,by kernel_rfl,trivial⟩
noncomputable def l27_2:MCode:=g0 [zt 37 36 35] (.seq (g1 37 2) (.seq (.block 3 (g0 [zm 38 3 34 36,zd 39 3 38,⟨some 8,none,(.ini false 30 [(.int .i64 0),(.string ⟨⟨[]⟩⟩),(.slice none 0 0)] (.tmp 39))⟩] (.dregion s27_1 g27_1))) (.region [zg 47 36 1,za 36 47])))
noncomputable def s27_3:List MStep:=[za 48 0,zh 49 48,zb 50 0 49,zc 51 50,zb 52 0 5,zc 53 52,zd 54 6 6]
noncomputable def g27_3:List MStage:=[⟨⟨none,none,(.mapupd true (.tmp 51) (.tmp 53) (.tmp 54))⟩,[],[]⟩]
theorem d27_3:okD s27_3 g27_3:=⟨by kernel_rfl,by kernel_rfl,trivial⟩
noncomputable def l27_4:MCode:=g0 [zt 21 20 19] (.seq (g1 21 0) (.seq (.block 1 (g0 [zm 22 6 18 20,zd 23 6 22,⟨some 5,none,(.ini false 92 [(.string ⟨⟨[]⟩⟩),(.slice none 0 0),(.slice none 0 0),(.int .i64 0),(.string ⟨⟨[]⟩⟩),(.slice none 0 0)] (.tmp 23))⟩] (.seq (.dregion s27_0 g27_0) (.seq (g0 [zb 33 2 5,zc 34 33,zr 35 34,zk 36 0] (.block 2 (.loop l27_2))) (.dregion s27_3 g27_3))))) (.region [zg 55 20 1,za 20 55])))
noncomputable def c27:MCode:=.seq (g0 [za 9 0,zh 10 9,zb 11 0 10,zc 12 11,⟨(some 13),none,(.p (.isnil false (.map none) (.tmp 12)))⟩] (g2 13 (.region [za 14 0,⟨(some 15),none,.mkmap⟩,zh 16 14,zb 17 0 16,zq 17 15]) (.skip))) (g0 [za 18 1,zr 19 18,zk 20 0] (.block 0 (.loop l27_4)))
theorem t27:T 27=some ⟨c27.toC,[]⟩:=by kernel_rfl
noncomputable def c28:MCode:=g0 [⟨(some 4),none,(.alloc 30 [(.int .i64 0),(.string ⟨⟨[]⟩⟩),(.slice none 0 0)])⟩] (g0 [za 5 0,za 6 1,zf 7 47 6,⟨(some 8),none,(.p (.build [(.int .i64 0),(.string ⟨⟨[]⟩⟩),(.slice none 0 0)] [(0,1,(.const (.int .i64 2))),(1,1,(.tmp 5)),(2,1,(.tmp 7))]))⟩,ze 3 4 8] (.ret))
theorem t28:T 28=some ⟨c28.toC,[.ldN 3 4]⟩:=by kernel_rfl
noncomputable def s29_0:List MStep:=[za 4 0,⟨(some 5),none,(.oth (.a (.bsl 94 [(.string ⟨⟨[]⟩⟩),(.slice none 0 0),(.slice none 0 0),(.int .i64 0),(.string ⟨⟨[]⟩⟩),(.slice none 0 0)] 0 [])))⟩,za 6 0,zh 7 6,zb 8 0 7,zc 9 8,zd 11 6 3,⟨(some 12),none,(.bsl 94 [(.string ⟨⟨[]⟩⟩),(.slice none 0 0),(.slice none 0 0),(.int .i64 0),(.string ⟨⟨[]⟩⟩),(.slice none 0 0)] 1 [(0,6,(.tmp 11))])⟩]
noncomputable def g29_0:List MStage:=[⟨zl 10 94 6 112 5 9,[⟨11,none,(.ldN 6 (.tmp 3))⟩],[]⟩,⟨zl 13 94 6 112 10 12,[],[zh 14 4,zb 15 0 14]⟩,⟨zq 15 13,[],[]⟩]
theorem d29_0:okD s29_0 g29_0:=⟨by kernel_rfl,by kernel_rfl,by kernel_rfl,by kernel_rfl,trivial⟩
noncomputable def c29:MCode:=g0 [zy 3 94 1] (.dregion s29_0 g29_0)
theorem t29:T 29=some ⟨c29.toC,[]⟩:=by kernel_rfl
noncomputable def c30:MCode:=g0 [zk 4 0] (g0 [za 6 0,za 7 1,⟨(some 8),none,(.p (.bin .rem (.tmp 6) (.tmp 7)))⟩,za 5 8] (.seq (g0 [za 9 5,⟨(some 10),none,(.p (.bin .lss (.tmp 9) (.const (.int .i64 0))))⟩] (g2 10 (.region [za 11 5,za 12 1,xj 13 11 12,za 5 13]) (.skip))) (g0 [za 14 5,za 4 14] (.ret))))
theorem t30:T 30=some ⟨c30.toC,[.tmp 4]⟩:=by kernel_rfl
noncomputable def s31_0:List MStep:=[⟨(some 31),none,(.p (.build [(.int .i64 0),(.string ⟨⟨[]⟩⟩),(.slice none 0 0)] []))⟩,yo 32 0]
noncomputable def g31_0:List MStage:=[⟨ze 3 4 31,[⟨32,none,(.ld1 (.global 0))⟩],[]⟩,⟨za 5 32,[],[]⟩]
theorem d31_0:okD s31_0 g31_0:=⟨by kernel_rfl,by kernel_rfl,by kernel_rfl,trivial⟩
noncomputable def c31:MCode:=g0 [zy 2 71 0,⟨(some 4),none,(.alloc 30 [(.int .i64 0),(.string ⟨⟨[]⟩⟩),(.slice none 0 0)])⟩,yb 5] (.seq (g0 [zb 11 1 2,zc 12 11,za 13 1,⟨(some 14),none,(.p (.lookup true (.agg ⟨[(.int .i64 0),(.string ⟨⟨[]⟩⟩),(.slice none 0 0)]⟩) true (.tmp 12) (.tmp 13)))⟩,za 10 14,zi 15 10 0,zi 16 10 1,⟨some 6,none,(.ini false 30 [(.int .i64 0),(.string ⟨⟨[]⟩⟩),(.slice none 0 0)] (.tmp 15))⟩,za 7 16] (g0 [za 17 7] (g2 17 (g0 [zd 18 3 6,ze 3 4 18,yb 5] (.ret)) (.skip)))) (.seq (g0 [zb 20 0 2,zc 21 20,zh 22 21,zb 23 1 22,zc 24 23,za 25 1,⟨(some 26),none,(.p (.lookup true (.agg ⟨[(.int .i64 0),(.string ⟨⟨[]⟩⟩),(.slice none 0 0)]⟩) true (.tmp 24) (.tmp 25)))⟩,za 19 26,zi 27 19 0,zi 28 19 1,⟨some 8,none,(.ini false 30 [(.int .i64 0),(.string ⟨⟨[]⟩⟩),(.slice none 0 0)] (.tmp 27))⟩,za 9 28] (g0 [za 29 9] (g2 29 (g0 [zd 30 3 8,ze 3 4 30,yb 5] (.ret)) (.skip)))) (.seq (.dregion s31_0 g31_0) (.ret))))
theorem t31:T 31=some ⟨c31.toC,[.ldN 3 4,.tmp 5]⟩:=by kernel_rfl
noncomputable def s34_0:List MStep:=[zd 10 2 2,zd 11 9 3,⟨(some 6),none,(.alloc 30 [(.int .i64 0),(.string ⟨⟨[]⟩⟩),(.slice none 0 0)])⟩]
noncomputable def g34_0:List MStage:=[⟨zo 12 38 11 0,[⟨10,none,(.ldN 2 (.tmp 2))⟩],[]⟩,⟨zj 13 20 10 12,[],[za 9 13,zi 14 9 0,zi 15 9 1]⟩,⟨ze 3 6 14,[],[]⟩,⟨za 7 15,[],[]⟩]
theorem d34_0:okD s34_0 g34_0:=⟨by kernel_rfl,by kernel_rfl,by kernel_rfl,by kernel_rfl,by kernel_rfl,trivial⟩
noncomputable def s34_1:List MStep:=[zd 21 2 2,zd 22 9 3,⟨(some 8),none,(.alloc 30 [(.int .i64 0),(.string ⟨⟨[]⟩⟩),(.slice none 0 0)])⟩]
noncomputable def g34_1:List MStage:=[⟨zo 23 38 22 1,[⟨21,none,(.ldN 2 (.tmp 2))⟩],[]⟩,⟨zj 24 20 21 23,[],[za 20 24,zi 25 20 0,zi 26 20 1]⟩,⟨ze 3 8 25,[],[]⟩,⟨za 7 26,[],[]⟩]
theorem d34_1:okD s34_1 g34_1:=⟨by kernel_rfl,by kernel_rfl,by kernel_rfl,by kernel_rfl,by kernel_rfl,trivial⟩
noncomputable def s34_2:List MStep:=[zb 31 0 6,zc 32 31,xm 33 32 3,za 34 33,yi 35 34 2 6,yg 36 34 35,yt 37 34 36,⟨(some 38),(some (34,false)),(.p (.bin .neq (.tmp 37) (.const (.int .i64 2))))⟩,zw 39 34 38,za 40 39,yi 41 40 2 6,yg 42 40 41,⟨(some 43),(some (40,false)),(.p (.ia 3 (.tmp 42) (.const (.int .i64 0))))⟩,⟨(some 44),(some (40,false)),(.p (.ldN 3 (.tmp 43)))⟩,⟨(some 45),(some (40,false)),(.p (.ldN 3 (.tmp 8)))⟩]
noncomputable def g34_2:List MStage:=[⟨⟨(some 46),(some (40,false)),(.call 12 [(.tmp 44),(.tmp 45)])⟩,[],[⟨(some 47),(some (40,false)),(.p (.un .not (.tmp 46)))⟩,zw 48 40 47]⟩]
theorem d34_2:okD s34_2 g34_2:=⟨by kernel_rfl,by kernel_rfl,trivial⟩
noncomputable def s34_3:List MStep:=[⟨(some 49),none,(.p (.build [(.int .i64 0),(.string ⟨⟨[]⟩⟩),(.slice none 0 0)] []))⟩,yo 50 2]
noncomputable def g34_3:List MStage:=[⟨ze 3 4 49,[⟨50,none,(.ld1 (.global 2))⟩],[]⟩,⟨za 5 50,[],[]⟩]
noncomputable def c34:MCode:=g0 [zy 2 71 0,zy 3 40 1,⟨(some 4),none,(.alloc 30 [(.int .i64 0),(.string ⟨⟨[]⟩⟩),(.slice none 0 0)])⟩,yb 5] (.seq (.dregion s34_0 g34_0) (.seq (g0 [za 16 7,ym 17 16] (g2 17 (g0 [⟨(some 18),none,(.p (.build [(.int .i64 0),(.string ⟨⟨[]⟩⟩),(.slice none 0 0)] []))⟩,za 19 7,ze 3 4 18,za 5 19] (.ret)) (.skip))) (.seq (.dregion s34_1 g34_1) (.seq (g0 [za 27 7,ym 28 27] (g2 28 (g0 [⟨(some 29),none,(.p (.build [(.int .i64 0),(.string ⟨⟨[]⟩⟩),(.slice none 0 0)] []))⟩,za 30 7,ze 3 4 29,za 5 30] (.ret)) (.skip))) (.seq (.seq (.dregion s34_2 g34_2) (g2 48 (.seq (.dregion s34_3 g34_3) (.ret)) (.skip))) (g0 [zb 51 2 6,zc 52 51,yk 53 3 52 1,zd 54 3 53,ze 3 4 54,yb 5] (.ret)))))))
theorem t34:T 34=some ⟨c34.toC,[.ldN 3 4,.tmp 5]⟩:=by kernel_rfl
noncomputable def s35_0:List MStep:=[zd 9 2 2,zb 10 1 3,zc 11 10,⟨(some 12),none,(.bsl 9 [(.string ⟨⟨[]⟩⟩)] 1 [(0,1,(.tmp 11))])⟩,zb 13 3 3,zd 14 3 13,⟨(some 15),none,(.bsl 30 [(.int .i64 0),(.string ⟨⟨[]⟩⟩),(.slice none 0 0)] 1 [(0,3,(.tmp 14))])⟩,zd 17 9 3,⟨(some 6),none,(.alloc 30 [(.int .i64 0),(.string ⟨⟨[]⟩⟩),(.slice none 0 0)])⟩]
noncomputable def g35_0:List MStage:=[⟨yd 16 41 9 12 15,[⟨17,none,(.ldN 9 (.tmp 3))⟩],[]⟩,⟨zo 18 38 17 0,[],[]⟩,⟨zj 19 20 16 18,[],[za 8 19,zi 20 8 0,zi 21 8 1]⟩,⟨ze 3 6 20,[],[]⟩,⟨za 7 21,[],[]⟩]
theorem d35_0:okD s35_0 g35_0:=⟨by kernel_rfl,by kernel_rfl,by kernel_rfl,by kernel_rfl,by kernel_rfl,by kernel_rfl,trivial⟩
noncomputable def c35:MCode:=g0 [zy 2 71 0,zy 3 40 1,⟨(some 4),none,(.alloc 30 [(.int .i64 0),(.string ⟨⟨[]⟩⟩),(.slice none 0 0)])⟩,yb 5] (.seq (.dregion s35_0 g35_0) (.seq (g0 [za 22 7,ym 23 22] (g2 23 (g0 [⟨(some 24),none,(.p (.build [(.int .i64 0),(.string ⟨⟨[]⟩⟩),(.slice none 0 0)] []))⟩,za 25 7,ze 3 4 24,za 5 25] (.ret)) (.skip))) (g0 [zb 26 3 3,zd 27 3 26,zd 28 3 6,⟨(some 29),none,(.bsl 30 [(.int .i64 0),(.string ⟨⟨[]⟩⟩),(.slice none 0 0)] 2 [(0,3,(.tmp 27)),(3,3,(.tmp 28))])⟩,zf 30 49 29,ze 3 4 30,yb 5] (.ret))))
theorem t35:T 35=some ⟨c35.toC,[.ldN 3 4,.tmp 5]⟩:=by kernel_rfl
noncomputable def c38:MCode:=g0 [zy 2 40 0,⟨(some 4),none,(.alloc 40 [(.int .i64 0),(.string ⟨⟨[]⟩⟩),(.int .i64 0),(.int .i64 0),(.string ⟨⟨[]⟩⟩),(.slice none 0 0),(.slice none 0 0),(.slice none 0 0),(.slice none 0 0)])⟩] (.seq (g0 [za 5 1,zb 6 6 2,zc 7 6,zr 8 7,zt 9 5 8] (g2 9 (g0 [zb 10 6 2,zc 11 10,za 12 1,zm 13 9 11 12,zd 14 9 13,ze 9 4 14] (.ret)) (.skip))) (g0 [⟨(some 15),none,(.p (.build [(.int .i64 0),(.string ⟨⟨[]⟩⟩),(.int .i64 0),(.int .i64 0),(.string ⟨⟨[]⟩⟩),(.slice none 0 0),(.slice none 0 0),(.slice none 0 0),(.slice none 0 0)] []))⟩,ze 9 4 15] (.ret)))
theorem t38:T 38=some ⟨c38.toC,[.ldN 9 4]⟩:=by kernel_rfl
noncomputable def c40:MCode:=g0 [zx 4] (g0 [za 5 0,za 6 1,zj 7 53 5 6,yj 8 7 0,za 4 8] (.ret))
theorem t40:T 40=some ⟨c40.toC,[.tmp 4]⟩:=by kernel_rfl
noncomputable def l41_0:MCode:=g0 [⟨(some 19),none,(.oth (.e (.next (.tmp 18))))⟩,zi 20 19 0] (.seq (g1 20 0) (.block 1 (g0 [⟨(some 21),none,(.p (.entry (.tmp 18)))⟩,zi 22 21 0,zi 23 21 1,⟨(some 9),none,(.alloc 30 [(.int .i64 0),(.string ⟨⟨[]⟩⟩),(.slice none 0 0)])⟩,za 8 22,ze 3 9 23] (.region [zb 24 1 7,zc 25 24,za 26 8,zd 27 3 9,⟨none,none,(.mapupd true (.tmp 25) (.tmp 26) (.tmp 27))⟩]))))
noncomputable def s41_1:List MStep:=[zb 35 1 7,zc 36 35,za 37 11,za 38 2,za 39 10,zm 40 3 38 39,zd 41 3 40]
noncomputable def g41_1:List MStage:=[⟨⟨none,none,(.mapupd true (.tmp 36) (.tmp 37) (.tmp 41))⟩,[],[]⟩]
theorem d41_1:okD s41_1 g41_1:=⟨by kernel_rfl,by kernel_rfl,trivial⟩
noncomputable def l41_2:MCode:=g0 [zt 31 30 29] (.seq (g1 31 2) (.seq (.block 3 (g0 [za 32 30,zm 33 1 28 30,zc 34 33,za 10 32,za 11 34] (.dregion s41_1 g41_1))) (.region [zg 42 30 1,za 30 42])))
noncomputable def c41:MCode:=g0 [zy 3 71 0,⟨(some 6),none,(.alloc 71 [(.pointer none),(.map none)])⟩] (g0 [zb 12 0 3,zc 13 12,⟨(some 14),none,.mkmap⟩,⟨(some 15),none,(.p (.build [(.pointer none),(.map none)] [(0,1,(.tmp 13)),(1,1,(.tmp 14))]))⟩,xa 7 71 15] (.seq (g0 [zb 16 1 3,zc 17 16,⟨(some 18),none,(.oth (.e (.range (.tmp 17))))⟩] (.block 0 (.loop l41_0))) (.seq (g0 [za 28 1,zr 29 28,zk 30 0] (.block 2 (.loop l41_2))) (g0 [zd 43 2 7,ze 2 6 43] (.ret)))))
theorem t41:T 41=some ⟨c41.toC,[.ldN 2 6]⟩:=by kernel_rfl
noncomputable def l42_0:MCode:=.seq (g0 [za 9 5,yj 10 9 0] (g1 10 0)) (.seq (.block 1 (g0 [za 13 0,za 14 5,zm 15 1 13 14,zc 16 15,za 17 1,yr 18 16 17] (g2 18 (g0 [za 19 5,za 4 19] (.ret)) (.skip)))) (.region [za 11 5,ye 12 11 1,za 5 12]))
noncomputable def c42:MCode:=g0 [zk 4 0] (.seq (g0 [za 6 0,zr 7 6,ye 8 7 1,za 5 8] (.block 0 (.loop l42_0))) (g0 [xc 4 1] (.ret)))
theorem t42:T 42=some ⟨c42.toC,[.tmp 4]⟩:=by kernel_rfl
noncomputable def c43:MCode:=g0 [zv 2 0 0] (.seq (g0 [za 3 0,⟨(some 4),none,(.p (.isnil false (.slice none 0 0) (.tmp 3)))⟩] (g2 4 (g0 [zv 2 0 0] (.ret)) (.skip))) (g0 [⟨(some 5),none,(.oth (.a (.bsl 9 [(.string ⟨⟨[]⟩⟩)] 0 [])))⟩,za 6 0,zl 7 9 1 16 5 6,za 2 7] (.ret)))
theorem t43:T 43=some ⟨c43.toC,[.tmp 2]⟩:=by kernel_rfl
noncomputable def c44:MCode:=g0 [⟨(some 2),none,(.p (.mov (.const (.pointer none))))⟩] (g0 [za 6 0,zf 7 54 6,za 5 7,zi 8 5 0,zi 9 5 1,yq 4 83 0 0,za 3 8,ze 3 4 9] (g0 [za 10 3,za 11 0,zr 12 11,zd 13 3 4,⟨(some 14),none,(.p (.build [(.slice none 0 0),(.int .i64 0),(.int .i64 0),(.int .i64 0),(.bool false),(.int .i64 0),(.int .i64 0)] [(0,1,(.tmp 10)),(2,1,(.tmp 12)),(3,3,(.tmp 13))]))⟩,yx 15 125 14,za 2 15] (.ret)))
theorem t44:T 44=some ⟨c44.toC,[.tmp 2]⟩:=by kernel_rfl
noncomputable def l45_0:MCode:=.seq (g0 [za 7 0,⟨(some 8),none,(.call 56 [(.tmp 7),(.const (.string ⟨⟨[59]⟩⟩))])⟩] (g1 8 2)) (.block 3 (.region [za 9 0,za 10 0,zh 11 10,zb 12 1 11,zc 13 12,zg 14 13 1,zh 15 9,zb 16 1 15,zq 16 14]))
noncomputable def s45_1:List MStep:=[za 17 0,zh 18 17,zb 19 1 18,zc 20 19,za 21 0,zh 22 21,zb 23 0 22,zc 24 23,zr 25 24,⟨(some 26),none,(.p (.bin .geq (.tmp 20) (.tmp 25)))⟩]
noncomputable def g45_1:List MStage:=[]
theorem d45_1:okD s45_1 g45_1:=⟨by kernel_rfl,trivial⟩
noncomputable def s45_2:List MStep:=[zb 39 0 3,zc 40 39,za 41 0]
noncomputable def g45_2:List MStage:=[⟨zf 42 57 41,[⟨40,none,(.ld1 (.tmp 39))⟩],[⟨(some 43),none,(.bsl 66 [(.string ⟨⟨[]⟩⟩),(.slice none 0 0),(.slice none 0 0),(.slice none 0 0),(.int .i64 0)] 1 [(0,5,(.tmp 42))])⟩]⟩,⟨zl 44 66 5 96 40 43,[],[zb 45 0 3]⟩,⟨zq 45 44,[],[]⟩]
theorem d45_2:okD s45_2 g45_2:=⟨by kernel_rfl,by kernel_rfl,by kernel_rfl,by kernel_rfl,trivial⟩
noncomputable def s45_3:List MStep:=[zb 49 1 3,zc 50 49,za 51 0]
noncomputable def g45_3:List MStage:=[⟨zf 52 58 51,[⟨50,none,(.ld1 (.tmp 49))⟩],[⟨(some 53),none,(.bsl 130 [(.string ⟨⟨[]⟩⟩),(.string ⟨⟨[]⟩⟩),(.slice none 0 0),(.slice none 0 0),(.slice none 0 0),(.int .i64 0)] 1 [(0,6,(.tmp 52))])⟩]⟩,⟨zl 54 130 6 112 50 53,[],[zb 55 1 3]⟩,⟨zq 55 54,[],[]⟩]
theorem d45_3:okD s45_3 g45_3:=⟨by kernel_rfl,by kernel_rfl,by kernel_rfl,by kernel_rfl,trivial⟩
noncomputable def s45_4:List MStep:=[zb 59 2 3,zc 60 59,za 61 0]
noncomputable def g45_4:List MStage:=[⟨zf 62 59 61,[⟨60,none,(.ld1 (.tmp 59))⟩],[⟨(some 63),none,(.bsl 134 [(.string ⟨⟨[]⟩⟩),(.string ⟨⟨[]⟩⟩),(.slice none 0 0),(.slice none 0 0),(.slice none 0 0),(.int .i64 0)] 1 [(0,6,(.tmp 62))])⟩]⟩,⟨zl 64 134 6 112 60 63,[],[zb 65 2 3]⟩,⟨zq 65 64,[],[]⟩]
theorem d45_4:okD s45_4 g45_4:=⟨by kernel_rfl,by kernel_rfl,by kernel_rfl,by kernel_rfl,trivial⟩
noncomputable def l45_5:MCode:=.seq (g0 [za 5 0,zf 6 55 5] (g1 6 0)) (.block 1 (.seq (.block 2 (.loop l45_0)) (.seq (.seq (.dregion s45_1 g45_1) (g2 26 (.exit 0) (.skip))) (.seq (.block 4 (g0 [za 37 0,⟨(some 38),none,(.call 56 [(.tmp 37),(.const (.string ⟨⟨[100,97,116,97]⟩⟩))])⟩,za 36 38] (g2 36 (.dregion s45_2 g45_2) (g0 [za 47 0,⟨(some 48),none,(.call 56 [(.tmp 47),(.const (.string ⟨⟨[99,108,97,115,115]⟩⟩))])⟩,za 46 48] (g2 46 (.dregion s45_3 g45_3) (g0 [za 57 0,⟨(some 58),none,(.call 56 [(.tmp 57),(.const (.string ⟨⟨[105,110,115,116,97,110,99,101]⟩⟩))])⟩,za 56 58] (g2 56 (.dregion s45_4 g45_4) (.region [za 28 0,za 29 4,zb 30 3 3,zc 31 30,yd 32 60 28 29 31,za 27 32,zi 33 27 0,zi 34 27 1,za 4 33,zb 35 3 3,zq 35 34])))))))) (.region [za 66 0,⟨(some 67),none,(.call 61 [(.tmp 66),(.const (.bool false))])⟩])))))
noncomputable def c45:MCode:=g0 [yu 2 81 0 0 0 0 0 0 0 0] (g0 [yu 3 81 0 0 0 0 0 0 0 0] (g0 [zv 4 0 0] (.seq (.block 0 (.loop l45_5)) (g0 [za 68 0,za 69 4,zb 70 3 3,zc 71 70,yd 72 62 68 69 71,zb 73 3 3,zq 73 72] (g0 [zd 74 4 3,ze 4 2 74] (.ret))))))
theorem t45:T 45=some ⟨c45.toC,[.ldN 4 2]⟩:=by kernel_rfl
noncomputable def s46_0:List MStep:=[za 3 0]
noncomputable def g46_0:List MStage:=[⟨zf 4 55 3,[],[za 5 4,zp 6 5 0,yh 7 5 6,zz 8 5 1 7,zu 9 5 8,zp 10 5 0,yh 11 5 10,zz 12 5 0 11,zu 13 5 12,xn 14 5 13,xp 15 5 9 14,zn 16 5 15]⟩]
theorem d46_0:okD s46_0 g46_0:=⟨by kernel_rfl,by kernel_rfl,trivial⟩
noncomputable def c46:MCode:=g0 [yq 2 83 0 0] (.seq (.seq (.dregion s46_0 g46_0) (g2 16 (.region [za 17 0,zf 18 63 17]) (.skip))) (g0 [za 19 0,zh 20 19,zb 21 3 20,zd 22 3 21,ze 3 2 22] (.ret)))
theorem t46:T 46=some ⟨c46.toC,[.ldN 3 2]⟩:=by kernel_rfl
noncomputable def c47:MCode:=g0 [zv 2 0 0] (.seq (g0 [za 3 0,⟨(some 4),none,(.p (.isnil false (.slice none 0 0) (.tmp 3)))⟩] (g2 4 (g0 [zv 2 0 0] (.ret)) (.skip))) (g0 [⟨(some 5),none,(.oth (.a (.bsl 30 [(.int .i64 0),(.string ⟨⟨[]⟩⟩),(.slice none 0 0)] 0 [])))⟩,za 6 0,zl 7 30 3 48 5 6,za 2 7] (.ret)))
theorem t47:T 47=some ⟨c47.toC,[.tmp 2]⟩:=by kernel_rfl
noncomputable def s49_0:List MStep:=[za 22 0,za 23 4,zm 24 3 22 23,zd 25 3 24,zd 26 3 3,⟨(some 27),none,(.bsl 30 [(.int .i64 0),(.string ⟨⟨[]⟩⟩),(.slice none 0 0)] 2 [(0,3,(.tmp 25)),(3,3,(.tmp 26))])⟩,⟨(some 28),none,(.p (.build [(.int .i64 0),(.string ⟨⟨[]⟩⟩),(.slice none 0 0)] [(0,1,(.const (.int .i64 3))),(2,1,(.tmp 27))]))⟩]
noncomputable def g49_0:List MStage:=[⟨yc 3 3 28,[],[]⟩]
theorem d49_0:okD s49_0 g49_0:=⟨by kernel_rfl,by kernel_rfl,trivial⟩
noncomputable def l49_1:MCode:=.seq (g0 [za 18 4,yj 19 18 0] (g1 19 0)) (.seq (.block 1 (.dregion s49_0 g49_0)) (.region [za 20 4,ye 21 20 1,za 4 21]))
noncomputable def c49:MCode:=g0 [⟨(some 2),none,(.alloc 30 [(.int .i64 0),(.string ⟨⟨[]⟩⟩),(.slice none 0 0)])⟩] (.seq (g0 [za 5 0,zr 6 5,zs 7 6 0] (g2 7 (g0 [⟨(some 8),none,(.call 28 [(.const (.string ⟨⟨[85,110,105,116]⟩⟩)),(.const (.slice none 0 0))])⟩,ze 3 2 8] (.ret)) (.skip))) (g0 [za 9 0,za 10 0,zr 11 10,ye 12 11 1,zm 13 3 9 12,zd 14 3 13,⟨(some 3),none,(.alloc 30 [(.int .i64 0),(.string ⟨⟨[]⟩⟩),(.slice none 0 0)])⟩,yc 3 3 14] (.seq (g0 [za 15 0,zr 16 15,ye 17 16 2,za 4 17] (.block 0 (.loop l49_1))) (g0 [zd 29 3 3,ze 3 2 29] (.ret)))))
theorem t49:T 49=some ⟨c49.toC,[.ldN 3 2]⟩:=by kernel_rfl
noncomputable def l53_0:MCode:=g0 [zt 9 8 7] (.seq (g1 9 0) (.seq (.block 1 (g0 [za 10 8,za 5 10] (g0 [za 11 1,za 12 0,za 13 5,zm 14 1 12 13,zc 15 14,yr 16 11 15] (g2 16 (g0 [za 17 5,za 4 17] (.ret)) (.skip))))) (.region [zg 18 8 1,za 8 18])))
noncomputable def c53:MCode:=g0 [zk 4 0] (.seq (g0 [za 6 0,zr 7 6,zk 8 0] (.block 0 (.loop l53_0))) (g0 [xc 4 1] (.ret)))
theorem t53:T 53=some ⟨c53.toC,[.tmp 4]⟩:=by kernel_rfl
noncomputable def l54_0:MCode:=.seq (g0 [za 86 5,za 87 0,zr 88 87,zt 89 86 88,za 90 89,zp 91 90 0,zp 92 90 5,yl 93 90 1 91 92,zu 94 90 93,⟨(some 95),(some (90,true)),(.p (.bin .neq (.tmp 94) (.const (.int .u8 10))))⟩,zn 96 90 95] (g1 96 3)) (.block 4 (.region [za 97 5,zg 98 97 1,za 5 98]))
noncomputable def l54_1:MCode:=.seq (g0 [za 12 5,za 13 0,zr 14 13,zt 15 12 14] (g1 15 0)) (.block 1 (.block 2 (g0 [za 37 0,za 38 5,zm 39 1 37 38,zc 40 39,yv 41 40 32,za 42 41,ya 43 42 0,ya 44 42 5,xq 45 42 1 43 44,yg 46 42 45,yw 47 42 46 9,zw 48 42 47,za 49 48,ya 50 49 0,ya 51 49 5,xq 52 49 1 50 51,yg 53 49 52,yw 54 49 53 10,zw 55 49 54,za 56 55,ya 57 56 0,ya 58 56 5,xq 59 56 1 57 58,yg 60 56 59,yw 61 56 60 13,zw 62 56 61,za 36 62] (g2 36 (.region [za 63 5,zg 64 63 1,za 5 64]) (g0 [za 66 0,za 67 5,zm 68 1 66 67,zc 69 68,yv 70 69 45,za 71 70,zp 72 71 5,xe 73 71 72 1,zp 74 71 0,xn 75 71 74,xp 76 71 73 75,zn 77 71 76,za 78 77,zp 79 78 0,zp 80 78 5,xe 81 78 80 1,yl 82 78 1 79 81,zu 83 78 82,xf 84 78 83 45,zn 85 78 84,za 65 85] (g2 65 (.block 3 (.loop l54_0)) (g0 [za 17 0,za 18 5,⟨(some 19),none,(.p (.slV 5 1 (.tmp 17) (some (.tmp 18)) none none))⟩,zf 20 68 19,za 16 20,zi 21 16 0,zi 22 16 1,⟨(some 6),none,(.alloc 145 [(.int .i64 0),(.int .i64 0),(.string ⟨⟨[]⟩⟩),(.int .i64 0)])⟩,yc 4 6 21,za 7 22] (.seq (g0 [za 23 7,zs 24 23 0] (g2 24 (g0 [za 25 5,⟨(some 26),none,(.call 67 [(.const (.int .i64 101)),(.tmp 25)])⟩,zv 2 0 0,ze 3 3 26] (.ret)) (.skip))) (g0 [za 27 5,zb 28 1 6,zq 28 27] (g0 [za 29 4,zd 30 4 6,⟨(some 31),none,(.bsl 145 [(.int .i64 0),(.int .i64 0),(.string ⟨⟨[]⟩⟩),(.int .i64 0)] 1 [(0,4,(.tmp 30))])⟩,zl 32 145 4 40 29 31,za 4 32] (.region [za 33 5,za 34 7,xj 35 33 34,za 5 35])))))))))))
noncomputable def c54:MCode:=g0 [zv 2 0 0,yq 3 83 0 0] (.seq (g0 [za 8 0,zr 9 8,ys 10 9 20000] (g2 10 (g0 [⟨(some 11),none,(.call 67 [(.const (.int .i64 111)),(.const (.int .i64 20000))])⟩,zv 2 0 0,ze 3 3 11] (.ret)) (.skip))) (g0 [zv 4 0 0] (.seq (g0 [zk 5 0] (.block 0 (.loop l54_1))) (g0 [za 99 4,xo 100 69,za 2 99,ze 3 3 100] (.ret)))))
theorem t54:T 54=some ⟨c54.toC,[.tmp 2,.ldN 3 3]⟩:=by kernel_rfl
noncomputable def c55:MCode:=g0 [zx 2] (g0 [za 3 0,zh 4 3,zb 5 3 4,zb 6 0 5,zc 7 6,zs 8 7 0,za 2 8] (.ret))
theorem t55:T 55=some ⟨c55.toC,[.tmp 2]⟩:=by kernel_rfl
noncomputable def c56:MCode:=g0 [zx 4] (g0 [za 5 0,za 6 0,zh 7 6,zb 8 1 7,zc 9 8,za 10 1,yd 11 70 5 9 10,za 4 11] (.ret))
theorem t56:T 56=some ⟨c56.toC,[.tmp 4]⟩:=by kernel_rfl
noncomputable def s57_0:List MStep:=[zb 15 1 3,zc 16 15,za 17 0]
noncomputable def g57_0:List MStage:=[⟨zo 18 73 17 1,[⟨16,none,(.ld1 (.tmp 15))⟩],[⟨(some 19),none,(.bsl 9 [(.string ⟨⟨[]⟩⟩)] 1 [(0,1,(.tmp 18))])⟩]⟩,⟨zl 20 9 1 16 16 19,[],[zb 21 1 3]⟩,⟨zq 21 20,[],[]⟩]
theorem d57_0:okD s57_0 g57_0:=⟨by kernel_rfl,by kernel_rfl,by kernel_rfl,by kernel_rfl,trivial⟩
noncomputable def l57_1:MCode:=.seq (g0 [za 13 0,zo 14 74 13 1] (g1 14 0)) (.block 1 (.dregion s57_0 g57_0))
noncomputable def s57_2:List MStep:=[zb 31 1 4,zc 32 31,za 33 0]
noncomputable def g57_2:List MStage:=[⟨zf 34 76 33,[⟨32,none,(.ld1 (.tmp 31))⟩],[⟨(some 35),none,(.bsl 30 [(.int .i64 0),(.string ⟨⟨[]⟩⟩),(.slice none 0 0)] 1 [(0,3,(.tmp 34))])⟩]⟩,⟨zl 36 30 3 48 32 35,[],[zb 37 1 4]⟩,⟨zq 37 36,[],[]⟩]
theorem d57_2:okD s57_2 g57_2:=⟨by kernel_rfl,by kernel_rfl,by kernel_rfl,by kernel_rfl,trivial⟩
noncomputable def l57_3:MCode:=.seq (g0 [za 29 0,zf 30 75 29] (g1 30 4)) (.block 5 (.dregion s57_2 g57_2))
noncomputable def l57_4:MCode:=.seq (g0 [za 24 0,zf 25 55 24] (g1 25 2)) (.block 3 (g0 [za 26 0,zo 27 73 26 2,⟨(some 28),none,(.p (.build [(.string ⟨⟨[]⟩⟩),(.slice none 0 0)] [(0,1,(.tmp 27))]))⟩,⟨(some 4),none,(.alloc 88 [(.string ⟨⟨[]⟩⟩),(.slice none 0 0)])⟩,yc 2 4 28] (.seq (.block 4 (.loop l57_3)) (g0 [zb 38 2 3,zc 39 38,zd 40 2 4,⟨(some 41),none,(.bsl 88 [(.string ⟨⟨[]⟩⟩),(.slice none 0 0)] 1 [(0,2,(.tmp 40))])⟩,zl 42 88 2 40 39 41,zb 43 2 3,zq 43 42] (.seq (g0 [za 44 0,⟨(some 45),none,(.call 56 [(.tmp 44),(.const (.string ⟨⟨[124]⟩⟩))])⟩,yf 46 45] (g2 46 (.exit 2) (.skip))) (.region [za 47 0,za 48 0,zh 49 48,zb 50 1 49,zc 51 50,zg 52 51 1,zh 53 47,zb 54 1 53,zq 54 52]))))))
noncomputable def s57_5:List MStep:=[zb 94 3 3,zc 95 94,za 96 0]
noncomputable def g57_5:List MStage:=[⟨zo 97 73 96 2,[⟨95,none,(.ld1 (.tmp 94))⟩],[⟨(some 98),none,(.bsl 9 [(.string ⟨⟨[]⟩⟩)] 1 [(0,1,(.tmp 97))])⟩]⟩,⟨zl 99 9 1 16 95 98,[],[zb 100 3 3]⟩,⟨zq 100 99,[],[]⟩]
theorem d57_5:okD s57_5 g57_5:=⟨by kernel_rfl,by kernel_rfl,by kernel_rfl,by kernel_rfl,trivial⟩
noncomputable def s57_6:List MStep:=[zb 111 3 3,zc 112 111,za 113 0]
noncomputable def g57_6:List MStage:=[⟨zo 114 73 113 2,[⟨112,none,(.ld1 (.tmp 111))⟩],[⟨(some 115),none,(.bsl 9 [(.string ⟨⟨[]⟩⟩)] 1 [(0,1,(.tmp 114))])⟩]⟩,⟨zl 116 9 1 16 112 115,[],[zb 117 3 3]⟩,⟨zq 117 116,[],[]⟩]
theorem d57_6:okD s57_6 g57_6:=⟨by kernel_rfl,by kernel_rfl,by kernel_rfl,by kernel_rfl,trivial⟩
noncomputable def l57_7:MCode:=.seq (g0 [za 101 0,⟨(some 102),none,(.call 56 [(.tmp 101),(.const (.string ⟨⟨[44]⟩⟩))])⟩] (g1 102 6)) (.block 7 (g0 [za 103 0,za 104 0,zh 105 104,zb 106 1 105,zc 107 106,zg 108 107 1,zh 109 103,zb 110 1 109,zq 110 108] (.dregion s57_6 g57_6)))
noncomputable def c57:MCode:=g0 [⟨(some 2),none,(.alloc 66 [(.string ⟨⟨[]⟩⟩),(.slice none 0 0),(.slice none 0 0),(.slice none 0 0),(.int .i64 0)])⟩] (g0 [za 5 0,zf 6 71 5,⟨(some 7),none,(.p (.build [(.string ⟨⟨[]⟩⟩),(.slice none 0 0),(.slice none 0 0),(.slice none 0 0),(.int .i64 0)] [(4,1,(.tmp 6))]))⟩,⟨(some 3),none,(.alloc 66 [(.string ⟨⟨[]⟩⟩),(.slice none 0 0),(.slice none 0 0),(.slice none 0 0),(.int .i64 0)])⟩,yc 5 3 7] (g0 [za 8 0,⟨(some 9),none,(.call 72 [(.tmp 8),(.const (.string ⟨⟨[100,97,116,97]⟩⟩))])⟩] (g0 [za 10 0,zo 11 73 10 2,zb 12 0 3,zq 12 11] (.seq (.block 0 (.loop l57_1)) (g0 [za 22 0,⟨(some 23),none,(.call 72 [(.tmp 22),(.const (.string ⟨⟨[61]⟩⟩))])⟩] (.seq (.block 2 (.loop l57_4)) (.seq (g0 [za 55 0,⟨(some 56),none,(.call 56 [(.tmp 55),(.const (.string ⟨⟨[100,101,114,105,118,105,110,103]⟩⟩))])⟩,yf 57 56] (g2 57 (g0 [zd 58 5 3,ze 5 2 58] (.ret)) (.skip))) (g0 [za 59 0,za 60 0,zh 61 60,zb 62 1 61,zc 63 62,zg 64 63 1,zh 65 59,zb 66 1 65,zq 66 64] (.seq (g0 [za 67 0,⟨(some 68),none,(.call 56 [(.tmp 67),(.const (.string ⟨⟨[40]⟩⟩))])⟩,yf 69 68] (g2 69 (g0 [za 70 0,zo 71 73 70 2,⟨(some 72),none,(.bsl 9 [(.string ⟨⟨[]⟩⟩)] 1 [(0,1,(.tmp 71))])⟩,zb 73 3 3,zq 73 72] (g0 [zd 74 5 3,ze 5 2 74] (.ret))) (.skip))) (g0 [za 75 0,za 76 0,zh 77 76,zb 78 1 77,zc 79 78,zg 80 79 1,zh 81 75,zb 82 1 81,zq 82 80] (.seq (g0 [za 83 0,⟨(some 84),none,(.call 56 [(.tmp 83),(.const (.string ⟨⟨[41]⟩⟩))])⟩] (g2 84 (g0 [za 85 0,za 86 0,zh 87 86,zb 88 1 87,zc 89 88,zg 90 89 1,zh 91 85,zb 92 1 91,zq 92 90] (g0 [zd 93 5 3,ze 5 2 93] (.ret))) (.skip))) (.seq (.dregion s57_5 g57_5) (.seq (.block 6 (.loop l57_7)) (g0 [za 118 0,⟨(some 119),none,(.call 72 [(.tmp 118),(.const (.string ⟨⟨[41]⟩⟩))])⟩] (g0 [zd 120 5 3,ze 5 2 120] (.ret))))))))))))))))
theorem t57:T 57=some ⟨c57.toC,[.ldN 5 2]⟩:=by kernel_rfl
noncomputable def s58_0:List MStep:=[za 30 4,za 31 6,zm 32 4 30 31,zb 33 1 32,zb 34 1 33,zc 35 34,zb 36 1 3,zc 37 36,⟨(some 38),none,(.p (.bin .neq (.tmp 35) (.tmp 37)))⟩]
noncomputable def g58_0:List MStage:=[]
theorem d58_0:okD s58_0 g58_0:=⟨by kernel_rfl,trivial⟩
noncomputable def s58_1:List MStep:=[zb 42 2 3,zc 43 42,za 44 4,za 45 6,zm 46 4 44 45,zb 47 0 46,zc 48 47,⟨(some 49),none,(.bsl 9 [(.string ⟨⟨[]⟩⟩)] 1 [(0,1,(.tmp 48))])⟩]
noncomputable def g58_1:List MStage:=[⟨zl 50 9 1 16 43 49,[],[zb 51 2 3]⟩,⟨zq 51 50,[],[]⟩]
theorem d58_1:okD s58_1 g58_1:=⟨by kernel_rfl,by kernel_rfl,by kernel_rfl,trivial⟩
noncomputable def l58_2:MCode:=.seq (g0 [za 24 6,za 25 4,zr 26 25,zt 27 24 26] (g1 27 0)) (.seq (.block 1 (.seq (.seq (.dregion s58_0 g58_0) (g2 38 (.region [za 39 0,za 40 5,yz 41 78 39 102 40]) (.skip))) (.dregion s58_1 g58_1))) (.region [za 28 6,zg 29 28 1,za 6 29]))
noncomputable def l58_3:MCode:=.seq (g0 [za 58 0,⟨(some 59),none,(.call 56 [(.tmp 58),(.const (.string ⟨⟨[59]⟩⟩))])⟩] (g1 59 4)) (.block 5 (.region [za 60 0,za 61 0,zh 62 61,zb 63 1 62,zc 64 63,zg 65 64 1,zh 66 60,zb 67 1 66,zq 67 65]))
noncomputable def s58_4:List MStep:=[zb 91 3 3,zc 92 91,za 93 7,yk 94 7 93 0,zb 95 0 94,zc 96 95,za 97 7,yk 98 7 97 0,zb 99 2 98,zb 100 2 99,zd 101 3 100,⟨(some 102),none,(.p (.build [(.string ⟨⟨[]⟩⟩),(.int .i64 0),(.string ⟨⟨[]⟩⟩),(.slice none 0 0)] [(0,1,(.tmp 96)),(1,3,(.tmp 101))]))⟩,⟨(some 103),none,(.bsl 163 [(.string ⟨⟨[]⟩⟩),(.int .i64 0),(.string ⟨⟨[]⟩⟩),(.slice none 0 0)] 1 [(0,4,(.tmp 102))])⟩]
noncomputable def g58_4:List MStage:=[⟨zl 104 163 4 64 92 103,[],[zb 105 3 3]⟩,⟨zq 105 104,[],[]⟩]
theorem d58_4:okD s58_4 g58_4:=⟨by kernel_rfl,by kernel_rfl,by kernel_rfl,trivial⟩
noncomputable def l58_5:MCode:=.seq (g0 [za 56 0,zf 57 55 56] (g1 57 2)) (.block 3 (.seq (.block 4 (.loop l58_3)) (.seq (g0 [za 68 0,⟨(some 69),none,(.call 56 [(.tmp 68),(.const (.string ⟨⟨[125]⟩⟩))])⟩] (g2 69 (.exit 2) (.skip))) (g0 [za 71 0,⟨(some 72),none,(.call 60 [(.tmp 71),(.const (.slice none 0 0)),(.const (.slice none 0 0))])⟩,za 70 72,zi 73 70 0,zi 74 70 1,za 7 73,za 8 74] (.seq (g0 [za 75 7,zr 76 75,ys 77 76 0] (g2 77 (.seq (g0 [za 78 7,yk 79 7 78 0,zb 80 2 79,zb 81 1 80,zc 82 81,zr 83 82,ys 84 83 0] (g2 84 (.region [za 85 0,za 86 7,yk 87 7 86 0,zb 88 1 87,zc 89 88,yz 90 78 85 102 89]) (.skip))) (.dregion s58_4 g58_4)) (.skip))) (g0 [zb 106 4 3,zc 107 106,za 108 8,zl 109 175 15 240 107 108,zb 110 4 3,zq 110 109] (.region [za 111 0,xd 112 61 111])))))))
noncomputable def c58:MCode:=g0 [⟨(some 2),none,(.alloc 130 [(.string ⟨⟨[]⟩⟩),(.string ⟨⟨[]⟩⟩),(.slice none 0 0),(.slice none 0 0),(.slice none 0 0),(.int .i64 0)])⟩] (g0 [za 9 0,zf 10 71 9,⟨(some 11),none,(.p (.build [(.string ⟨⟨[]⟩⟩),(.string ⟨⟨[]⟩⟩),(.slice none 0 0),(.slice none 0 0),(.slice none 0 0),(.int .i64 0)] [(5,1,(.tmp 10))]))⟩,⟨(some 3),none,(.alloc 130 [(.string ⟨⟨[]⟩⟩),(.string ⟨⟨[]⟩⟩),(.slice none 0 0),(.slice none 0 0),(.slice none 0 0),(.int .i64 0)])⟩,yc 6 3 11] (g0 [za 12 0,⟨(some 13),none,(.call 72 [(.tmp 12),(.const (.string ⟨⟨[99,108,97,115,115]⟩⟩))])⟩] (g0 [za 14 0,xd 15 77 14,za 4 15] (g0 [za 16 0,zo 17 73 16 2,zb 18 0 3,zq 18 17] (g0 [za 19 0,zf 20 71 19,za 5 20] (g0 [za 21 0,zo 22 73 21 1,zb 23 1 3,zq 23 22] (.seq (g0 [zk 6 0] (.block 0 (.loop l58_2))) (g0 [za 52 0,⟨(some 53),none,(.call 72 [(.tmp 52),(.const (.string ⟨⟨[119,104,101,114,101]⟩⟩))])⟩] (g0 [za 54 0,⟨(some 55),none,(.call 72 [(.tmp 54),(.const (.string ⟨⟨[123]⟩⟩))])⟩] (.seq (.block 2 (.loop l58_5)) (g0 [za 113 0,⟨(some 114),none,(.call 72 [(.tmp 113),(.const (.string ⟨⟨[125]⟩⟩))])⟩] (g0 [zd 115 6 3,ze 6 2 115] (.ret)))))))))))))
theorem t58:T 58=some ⟨c58.toC,[.ldN 6 2]⟩:=by kernel_rfl
noncomputable def s59_0:List MStep:=[zb 30 2 3,zc 31 30,za 32 0]
noncomputable def g59_0:List MStage:=[⟨zo 33 73 32 1,[⟨31,none,(.ld1 (.tmp 30))⟩],[⟨(some 34),none,(.bsl 9 [(.string ⟨⟨[]⟩⟩)] 1 [(0,1,(.tmp 33))])⟩]⟩,⟨zl 35 9 1 16 31 34,[],[zb 36 2 3]⟩,⟨zq 36 35,[],[]⟩]
theorem d59_0:okD s59_0 g59_0:=⟨by kernel_rfl,by kernel_rfl,by kernel_rfl,by kernel_rfl,trivial⟩
noncomputable def l59_1:MCode:=.seq (g0 [za 28 0,zo 29 74 28 1] (g1 29 0)) (.block 1 (.dregion s59_0 g59_0))
noncomputable def c59:MCode:=g0 [⟨(some 2),none,(.alloc 134 [(.string ⟨⟨[]⟩⟩),(.string ⟨⟨[]⟩⟩),(.slice none 0 0),(.slice none 0 0),(.slice none 0 0),(.int .i64 0)])⟩] (g0 [za 4 0,zf 5 71 4,⟨(some 6),none,(.p (.build [(.string ⟨⟨[]⟩⟩),(.string ⟨⟨[]⟩⟩),(.slice none 0 0),(.slice none 0 0),(.slice none 0 0),(.int .i64 0)] [(5,1,(.tmp 5))]))⟩,⟨(some 3),none,(.alloc 134 [(.string ⟨⟨[]⟩⟩),(.string ⟨⟨[]⟩⟩),(.slice none 0 0),(.slice none 0 0),(.slice none 0 0),(.int .i64 0)])⟩,yc 6 3 6] (g0 [za 7 0,⟨(some 8),none,(.call 72 [(.tmp 7),(.const (.string ⟨⟨[105,110,115,116,97,110,99,101]⟩⟩))])⟩] (g0 [za 9 0,xd 10 77 9,zb 11 3 3,zq 11 10] (g0 [za 12 0,zo 13 73 12 2,zb 14 0 3,zq 14 13] (.seq (g0 [za 15 0,⟨(some 16),none,(.call 56 [(.tmp 15),(.const (.string ⟨⟨[40]⟩⟩))])⟩] (g2 16 (g0 [za 17 0,za 18 0,zh 19 18,zb 20 1 19,zc 21 20,zg 22 21 1,zh 23 17,zb 24 1 23,zq 24 22] (g0 [za 25 0,zo 26 73 25 2,zb 27 1 3,zq 27 26] (.seq (.block 0 (.loop l59_1)) (.region [za 37 0,⟨(some 38),none,(.call 72 [(.tmp 37),(.const (.string ⟨⟨[41]⟩⟩))])⟩])))) (.region [za 39 0,zo 40 73 39 2,zb 41 1 3,zq 41 40]))) (g0 [za 42 0,⟨(some 43),none,(.call 72 [(.tmp 42),(.const (.string ⟨⟨[119,104,101,114,101]⟩⟩))])⟩] (g0 [za 44 0,⟨(some 45),none,(.call 72 [(.tmp 44),(.const (.string ⟨⟨[123]⟩⟩))])⟩] (g0 [za 46 0,zf 47 79 46,zb 48 4 3,zq 48 47] (g0 [za 49 0,⟨(some 50),none,(.call 72 [(.tmp 49),(.const (.string ⟨⟨[125]⟩⟩))])⟩] (g0 [zd 51 6 3,ze 6 2 51] (.ret)))))))))))
theorem t59:T 59=some ⟨c59.toC,[.ldN 6 2]⟩:=by kernel_rfl
noncomputable def l60_0:MCode:=.seq (g0 [za 38 0,zo 39 74 38 1] (g1 39 0)) (.block 1 (.region [za 40 10,za 41 0,zo 42 73 41 1,⟨(some 43),none,(.bsl 9 [(.string ⟨⟨[]⟩⟩)] 1 [(0,1,(.tmp 42))])⟩,zl 44 9 1 16 40 43,za 10 44]))
noncomputable def s60_1:List MStep:=[za 49 1,⟨(some 50),none,(.oth (.a (.bsl 175 [(.string ⟨⟨[]⟩⟩),(.bool false),(.slice none 0 0),(.slice none 0 0),(.int .i64 0),(.string ⟨⟨[]⟩⟩),(.slice none 0 0),(.int .i64 0),(.int .i64 0),(.string ⟨⟨[]⟩⟩),(.int .i64 0),(.slice none 0 0),(.slice none 0 0),(.slice none 0 0),(.int .i64 0)] 0 [])))⟩,za 51 2,za 53 8,za 54 9,za 55 10,zd 56 7 11,za 57 9]
noncomputable def g60_1:List MStage:=[⟨zl 52 175 15 240 50 51,[⟨56,none,(.ldN 7 (.tmp 11))⟩],[]⟩,⟨yd 58 83 55 56 57,[],[⟨(some 59),none,(.p (.build [(.string ⟨⟨[]⟩⟩),(.bool false),(.slice none 0 0),(.slice none 0 0),(.int .i64 0),(.string ⟨⟨[]⟩⟩),(.slice none 0 0),(.int .i64 0),(.int .i64 0),(.string ⟨⟨[]⟩⟩),(.int .i64 0),(.slice none 0 0),(.slice none 0 0),(.slice none 0 0),(.int .i64 0)] [(0,1,(.tmp 53)),(14,1,(.tmp 54)),(7,7,(.tmp 58))]))⟩,⟨(some 60),none,(.bsl 175 [(.string ⟨⟨[]⟩⟩),(.bool false),(.slice none 0 0),(.slice none 0 0),(.int .i64 0),(.string ⟨⟨[]⟩⟩),(.slice none 0 0),(.int .i64 0),(.int .i64 0),(.string ⟨⟨[]⟩⟩),(.int .i64 0),(.slice none 0 0),(.slice none 0 0),(.slice none 0 0),(.int .i64 0)] 1 [(0,15,(.tmp 59))])⟩]⟩,⟨zl 61 175 15 240 52 60,[],[]⟩,⟨za 6 49,[],[]⟩,⟨za 7 61,[],[]⟩]
theorem d60_1:okD s60_1 g60_1:=⟨by kernel_rfl,by kernel_rfl,by kernel_rfl,by kernel_rfl,by kernel_rfl,by kernel_rfl,trivial⟩
noncomputable def c60:MCode:=g0 [zv 6 0 0,zv 7 0 0] (g0 [za 13 0,zf 14 80 13,za 12 14,zi 15 12 0,zi 16 12 1,za 8 15,za 9 16] (.seq (g0 [za 17 0,⟨(some 18),none,(.call 56 [(.tmp 17),(.const (.string ⟨⟨[58,58]⟩⟩))])⟩] (g2 18 (g0 [za 19 0,za 20 0,zh 21 20,zb 22 1 21,zc 23 22,zg 24 23 1,zh 25 19,zb 26 1 25,zq 26 24] (g0 [⟨(some 27),none,(.oth (.a (.bsl 161 [(.string ⟨⟨[]⟩⟩),(.int .i64 0),(.slice none 0 0),(.slice none 0 0),(.int .i64 0),(.string ⟨⟨[]⟩⟩),(.slice none 0 0)] 0 [])))⟩,za 28 1,zl 29 161 7 120 27 28,za 30 8,za 31 9,za 32 0,zf 33 81 32,⟨(some 34),none,(.p (.build [(.string ⟨⟨[]⟩⟩),(.int .i64 0),(.slice none 0 0),(.slice none 0 0),(.int .i64 0),(.string ⟨⟨[]⟩⟩),(.slice none 0 0)] [(0,1,(.tmp 30)),(1,1,(.tmp 31)),(2,5,(.tmp 33))]))⟩,⟨(some 35),none,(.bsl 161 [(.string ⟨⟨[]⟩⟩),(.int .i64 0),(.slice none 0 0),(.slice none 0 0),(.int .i64 0),(.string ⟨⟨[]⟩⟩),(.slice none 0 0)] 1 [(0,7,(.tmp 34))])⟩,zl 36 161 7 120 29 35,za 37 2,za 6 36,za 7 37] (.ret))) (.skip))) (g0 [zv 10 0 0] (.seq (.block 0 (.loop l60_0)) (g0 [za 45 0,⟨(some 46),none,(.call 72 [(.tmp 45),(.const (.string ⟨⟨[61]⟩⟩))])⟩] (g0 [za 47 0,zf 48 82 47,⟨some 11,none,(.ini false 171 [(.int .i64 0),(.int .i64 0),(.string ⟨⟨[]⟩⟩),(.int .i64 0),(.slice none 0 0),(.slice none 0 0),(.slice none 0 0)] (.tmp 48))⟩] (.seq (.dregion s60_1 g60_1) (.ret))))))))
theorem t60:T 60=some ⟨c60.toC,[.tmp 6,.tmp 7]⟩:=by kernel_rfl
noncomputable def s61_0:List MStep:=[za 4 0]
noncomputable def g61_0:List MStage:=[⟨zf 5 55 4,[],[yf 6 5,za 7 6,ya 8 7 0]⟩,⟨⟨(some 9),(some (7,false)),(.call 56 [(.tmp 8),(.const (.string ⟨⟨[59]⟩⟩))])⟩,[],[zw 10 7 9,za 11 10,ya 12 11 1,ya 13 11 12,zp 14 13 0]⟩,⟨⟨(some 15),(some (13,true)),(.call 56 [(.tmp 14),(.const (.string ⟨⟨[125]⟩⟩))])⟩,[],[⟨(some 16),(some (11,false)),(.p (.pick (.tmp 13) (.tmp 15) (.const (.bool false))))⟩,zw 17 11 16,za 18 17,ya 19 18 1,⟨(some 20),(some (18,false)),(.p (.un .not (.tmp 19)))⟩,ya 21 18 20,zp 22 21 0,yh 23 21 22,zz 24 21 1 23,zu 25 21 24,zp 26 21 0,yh 27 21 26,zz 28 21 0 27,zu 29 21 28,xn 30 21 29,⟨(some 31),(some (21,true)),(.p (.bin .geq (.tmp 25) (.tmp 30)))⟩,⟨(some 32),(some (18,false)),(.p (.pick (.tmp 21) (.tmp 31) (.const (.bool false))))⟩,zw 33 18 32]⟩]
theorem d61_0:okD s61_0 g61_0:=⟨by kernel_rfl,by kernel_rfl,by kernel_rfl,by kernel_rfl,trivial⟩
noncomputable def c61:MCode:=.seq (.seq (.dregion s61_0 g61_0) (g2 33 (.ret) (.skip))) (.region [za 34 0,zf 35 63 34])
theorem t61:T 61=some ⟨c61.toC,[]⟩:=by kernel_rfl
noncomputable def s62_0:List MStep:=[za 35 7,za 36 10,zm 37 15 35 36,zb 38 0 37,zc 39 38,za 40 1,za 41 8,zm 42 7 40 41,zb 43 0 42,zc 44 43,yr 45 39 44,za 46 45,zp 47 46 7,zp 48 46 10,yl 49 46 15 47 48,zz 50 46 1 49,zu 51 46 50,⟨(some 52),(some (46,true)),(.p (.un .not (.tmp 51)))⟩,zn 53 46 52]
noncomputable def g62_0:List MStage:=[]
theorem d62_0:okD s62_0 g62_0:=⟨by kernel_rfl,trivial⟩
noncomputable def l62_1:MCode:=.seq (g0 [za 25 10,za 26 7,zr 27 26,zt 28 25 27,za 29 28,zp 30 29 9,⟨(some 31),(some (29,true)),(.p (.bin .lss (.tmp 30) (.const (.int .i64 0))))⟩,zn 32 29 31] (g1 32 2)) (.seq (.block 3 (.seq (.dregion s62_0 g62_0) (g2 53 (.region [za 54 10,za 9 54]) (.skip)))) (.region [za 33 10,zg 34 33 1,za 10 34]))
noncomputable def s62_2:List MStep:=[za 60 1,za 61 11,zm 62 7 60 61,zb 63 0 62,zc 64 63,za 65 1,za 66 8,zm 67 7 65 66,zb 68 0 67,zc 69 68,yr 70 64 69]
noncomputable def g62_2:List MStage:=[]
theorem d62_2:okD s62_2 g62_2:=⟨by kernel_rfl,trivial⟩
noncomputable def l62_3:MCode:=.seq (g0 [za 55 11,za 56 8,zt 57 55 56] (g1 57 4)) (.seq (.block 5 (.seq (.dregion s62_2 g62_2) (g2 70 (.region [xc 9 1]) (.skip)))) (.region [za 58 11,zg 59 58 1,za 11 59]))
noncomputable def l62_4:MCode:=.seq (g0 [za 15 8,za 16 1,zr 17 16,zt 18 15 17,za 19 18,zp 20 19 0,⟨(some 21),(some (19,true)),(.call 55 [(.tmp 20)])⟩,zn 22 19 21] (g1 22 0)) (.seq (.block 1 (g0 [xc 9 1] (.seq (g0 [zk 10 0] (.block 2 (.loop l62_1))) (.seq (g0 [zk 11 0] (.block 4 (.loop l62_3))) (.seq (g0 [za 71 9,⟨(some 72),none,(.p (.bin .lss (.tmp 71) (.const (.int .i64 0))))⟩] (g2 72 (g0 [za 73 0,za 74 1,za 75 8,zm 76 7 74 75,zb 77 1 76,zc 78 77,yz 79 78 73 102 78] (g0 [za 80 7,za 6 80] (.ret))) (.skip))) (g0 [za 81 7,za 82 9,zm 83 15 81 82,zb 84 1 83,⟨none,none,(.st1 (.tmp 84) (.const (.bool true)))⟩] (.region [za 85 7,za 86 9,za 87 1,za 88 8,zm 89 7 87 88,zb 90 2 89,zd 91 5 90,zm 92 15 85 86,zb 93 2 92,yc 5 93 91]))))))) (.region [za 23 8,zg 24 23 1,za 8 24]))
noncomputable def c62:MCode:=g0 [zv 6 0 0] (g0 [⟨(some 12),none,(.oth (.a (.bsl 175 [(.string ⟨⟨[]⟩⟩),(.bool false),(.slice none 0 0),(.slice none 0 0),(.int .i64 0),(.string ⟨⟨[]⟩⟩),(.slice none 0 0),(.int .i64 0),(.int .i64 0),(.string ⟨⟨[]⟩⟩),(.int .i64 0),(.slice none 0 0),(.slice none 0 0),(.slice none 0 0),(.int .i64 0)] 0 [])))⟩,za 13 2,zl 14 175 15 240 12 13,za 7 14] (.seq (g0 [zk 8 0] (.block 0 (.loop l62_4))) (g0 [za 94 7,za 6 94] (.ret))))
theorem t62:T 62=some ⟨c62.toC,[.tmp 6]⟩:=by kernel_rfl
noncomputable def c63:MCode:=.region [za 2 0,za 3 0,zf 4 71 3,yz 5 78 2 102 4]
theorem t63:T 63=some ⟨c63.toC,[]⟩:=by kernel_rfl
noncomputable def c67:MCode:=g0 [yq 4 83 0 0] (.seq (g0 [za 5 0,zs 6 5 0] (g2 6 (g0 [xo 7 69,ze 3 4 7] (.ret)) (.skip))) (g0 [za 8 0,za 9 1,⟨(some 10),none,(.p (.build [(.int .i64 0),(.bool false),(.int .i64 0)] [(0,1,(.tmp 8)),(1,1,(.const (.bool true))),(2,1,(.tmp 9))]))⟩,ze 3 4 10] (.ret)))
theorem t67:T 67=some ⟨c67.toC,[.ldN 3 4]⟩:=by kernel_rfl
noncomputable def l68_0:MCode:=.seq (g0 [za 27 5,za 28 0,zr 29 28,zt 30 27 29,za 31 30,zp 32 31 0,zp 33 31 5,yl 34 31 1 32 33,zu 35 31 34,⟨(some 36),(some (31,true)),(.call 90 [(.tmp 35)])⟩,zn 37 31 36] (g1 37 1)) (.block 2 (.region [za 38 5,zg 39 38 1,za 5 39]))
noncomputable def l68_1:MCode:=.seq (g0 [za 62 5,za 63 0,zr 64 63,zt 65 62 64,za 66 65,zp 67 66 0,zp 68 66 5,yl 69 66 1 67 68,zu 70 66 69,⟨(some 71),(some (66,true)),(.call 92 [(.tmp 70)])⟩,zn 72 66 71] (g1 72 3)) (.block 4 (.region [za 73 5,zg 74 73 1,za 5 74]))
noncomputable def l68_2:MCode:=.seq (g0 [za 78 9,za 79 5,zt 80 78 79] (g1 80 5)) (.seq (.block 6 (.region [za 83 8,⟨(some 84),none,(.p (.bin .mul (.const (.int .i64 10)) (.tmp 83)))⟩,za 85 0,za 86 9,zm 87 1 85 86,zc 88 87,⟨(some 89),none,(.p (.bin .sub (.tmp 88) (.const (.int .u8 48))))⟩,⟨(some 90),none,(.p (.i2i .i64 (.tmp 89)))⟩,xj 91 84 90,za 8 91])) (.region [za 81 9,zg 82 81 1,za 9 82]))
noncomputable def s68_3:List MStep:=[za 157 13,za 158 14,zm 159 1 157 158,zc 160 159,⟨(some 161),none,(.p (.build [(.int .i64 0),(.int .i64 0),(.string ⟨⟨[]⟩⟩),(.int .i64 0)] [(0,1,(.const (.int .i64 5))),(2,1,(.tmp 160))]))⟩,za 162 13,za 163 14,zm 164 1 162 163,zc 165 164,⟨(some 166),none,(.p (.lenS (.tmp 165)))⟩]
noncomputable def g68_3:List MStage:=[⟨ze 4 2 161,[⟨165,none,(.ld1 (.tmp 164))⟩],[]⟩,⟨za 3 166,[],[]⟩]
theorem d68_3:okD s68_3 g68_3:=⟨by kernel_rfl,by kernel_rfl,by kernel_rfl,trivial⟩
noncomputable def l68_4:MCode:=.seq (g0 [za 136 14,za 137 13,zr 138 137,zt 139 136 138] (g1 139 7)) (.seq (.block 8 (g0 [za 142 12,za 143 13,za 144 14,zm 145 1 143 144,zc 146 145,yr 147 142 146,za 148 147,ya 149 148 4,⟨(some 150),(some (148,false)),(.p (.i2s (.tmp 149)))⟩,ya 151 148 13,ya 152 148 14,xq 153 148 1 151 152,yg 154 148 153,⟨(some 155),(some (148,false)),(.p (.bin .eql (.tmp 150) (.tmp 154)))⟩,zw 156 148 155] (g2 156 (.seq (.dregion s68_3 g68_3) (.ret)) (.skip)))) (.region [za 140 14,zg 141 140 1,za 14 141]))
noncomputable def l68_5:MCode:=.seq (g0 [za 167 16,za 168 15,⟨(some 169),none,(.p (.lenS (.tmp 168)))⟩,zt 170 167 169] (g1 170 9)) (.seq (.block 10 (g0 [za 173 4,za 174 15,za 175 16,⟨(some 176),none,(.p (.ixS (.tmp 174) (.tmp 175)))⟩,yr 177 173 176] (g2 177 (g0 [za 178 4,⟨(some 179),none,(.p (.i2s (.tmp 178)))⟩,⟨(some 180),none,(.p (.build [(.int .i64 0),(.int .i64 0),(.string ⟨⟨[]⟩⟩),(.int .i64 0)] [(0,1,(.const (.int .i64 6))),(2,1,(.tmp 179))]))⟩,ze 4 2 180,zk 3 1] (.ret)) (.skip)))) (.region [za 171 16,zg 172 171 1,za 16 172]))
noncomputable def c68:MCode:=g0 [⟨(some 2),none,(.alloc 145 [(.int .i64 0),(.int .i64 0),(.string ⟨⟨[]⟩⟩),(.int .i64 0)])⟩,zk 3 0] (g0 [za 17 0,yk 18 1 17 0,zc 19 18,za 4 19] (g0 [zk 5 1] (.seq (.block 0 (g0 [za 21 4,zf 22 88 21,za 23 22,ya 24 23 4,⟨(some 25),(some (23,false)),(.call 89 [(.tmp 24)])⟩,zw 26 23 25,za 20 26] (g2 20 (.seq (.block 1 (.loop l68_0)) (g0 [za 40 0,za 41 5,⟨(some 42),none,(.p (.slV 5 1 (.tmp 40) none (some (.tmp 41)) none))⟩,⟨(some 43),none,(.p (.b2s (.tmp 42)))⟩,za 6 43] (g0 [zk 7 1] (.seq (g0 [za 44 4,zf 45 89 44] (g2 45 (.region [zk 7 2]) (g0 [za 46 6,⟨(some 47),none,(.p (.bin .eql (.tmp 46) (.const (.string ⟨⟨[95]⟩⟩))))⟩,za 48 47,ya 49 48 6,⟨(some 50),(some (48,false)),(.call 91 [(.tmp 49)])⟩,zw 51 48 50] (g2 51 (.region [zk 7 6]) (.skip))))) (.seq (g0 [za 52 5,ys 53 52 40] (g2 53 (g0 [⟨(some 54),none,(.p (.build [(.int .i64 0),(.int .i64 0),(.string ⟨⟨[]⟩⟩),(.int .i64 0)] []))⟩,ze 4 2 54,zk 3 0] (.ret)) (.skip))) (g0 [za 55 7,za 56 6,⟨(some 57),none,(.p (.build [(.int .i64 0),(.int .i64 0),(.string ⟨⟨[]⟩⟩),(.int .i64 0)] [(0,1,(.tmp 55)),(2,1,(.tmp 56))]))⟩,za 58 5,ze 4 2 57,za 3 58] (.ret))))))) (g0 [za 60 4,zf 61 92 60,za 59 61] (g2 59 (.seq (.block 3 (.loop l68_1)) (.seq (g0 [za 75 5,ys 76 75 15] (g2 76 (g0 [⟨(some 77),none,(.p (.build [(.int .i64 0),(.int .i64 0),(.string ⟨⟨[]⟩⟩),(.int .i64 0)] []))⟩,ze 4 2 77,zk 3 0] (.ret)) (.skip))) (g0 [zk 8 0] (.seq (g0 [zk 9 0] (.block 5 (.loop l68_2))) (g0 [za 92 0,za 93 5,⟨(some 94),none,(.p (.slV 5 1 (.tmp 92) none (some (.tmp 93)) none))⟩,⟨(some 95),none,(.p (.b2s (.tmp 94)))⟩,za 96 8,⟨(some 97),none,(.p (.build [(.int .i64 0),(.int .i64 0),(.string ⟨⟨[]⟩⟩),(.int .i64 0)] [(0,1,(.const (.int .i64 3))),(2,1,(.tmp 95)),(3,1,(.tmp 96))]))⟩,za 98 5,ze 4 2 97,za 3 98] (.ret)))))) (g0 [za 100 4,yv 101 100 39,za 99 101] (g2 99 (g0 [za 103 0,zf 104 93 103,za 102 104,zi 105 102 0,zi 106 102 1,za 10 105,za 11 106] (.seq (g0 [za 107 10,zs 108 107 0] (g2 108 (g0 [⟨(some 109),none,(.p (.build [(.int .i64 0),(.int .i64 0),(.string ⟨⟨[]⟩⟩),(.int .i64 0)] []))⟩,ze 4 2 109,zk 3 0] (.ret)) (.skip))) (g0 [za 110 0,za 111 10,⟨(some 112),none,(.p (.slV 5 1 (.tmp 110) none (some (.tmp 111)) none))⟩,⟨(some 113),none,(.p (.b2s (.tmp 112)))⟩,za 114 11,⟨(some 115),none,(.p (.build [(.int .i64 0),(.int .i64 0),(.string ⟨⟨[]⟩⟩),(.int .i64 0)] [(0,1,(.const (.int .i64 4))),(2,1,(.tmp 113)),(3,1,(.tmp 114))]))⟩,za 116 10,ze 4 2 115,za 3 116] (.ret)))) (.skip)))))))) (g0 [⟨(some 12),none,(.p (.mov (.const (.string ⟨⟨[]⟩⟩))))⟩] (.seq (g0 [za 117 0,zr 118 117,ys 119 118 1] (g2 119 (.region [za 120 0,⟨(some 121),none,(.p (.slV 5 1 (.tmp 120) none (some (.const (.int .i64 2))) none))⟩,⟨(some 122),none,(.p (.b2s (.tmp 121)))⟩,za 12 122]) (.skip))) (.seq (g0 [za 123 12,⟨(some 124),none,(.p (.bin .eql (.tmp 123) (.const (.string ⟨⟨[45,62]⟩⟩))))⟩,za 125 124,ya 126 125 12,⟨(some 127),(some (125,false)),(.p (.bin .eql (.tmp 126) (.const (.string ⟨⟨[61,62]⟩⟩))))⟩,zw 128 125 127,za 129 128,ya 130 129 12,⟨(some 131),(some (129,false)),(.p (.bin .eql (.tmp 130) (.const (.string ⟨⟨[58,58]⟩⟩))))⟩,zw 132 129 131] (g2 132 (g0 [za 133 12,⟨(some 134),none,(.p (.build [(.int .i64 0),(.int .i64 0),(.string ⟨⟨[]⟩⟩),(.int .i64 0)] [(0,1,(.const (.int .i64 6))),(2,1,(.tmp 133))]))⟩,ze 4 2 134,zk 3 2] (.ret)) (.skip))) (g0 [xo 135 94,za 13 135] (.seq (g0 [zk 14 0] (.block 7 (.loop l68_4))) (g0 [⟨(some 15),none,(.p (.mov (.const (.string ⟨⟨[40,41,123,125,44,59,61,92,124]⟩⟩))))⟩] (.seq (g0 [zk 16 0] (.block 9 (.loop l68_5))) (g0 [⟨(some 181),none,(.p (.build [(.int .i64 0),(.int .i64 0),(.string ⟨⟨[]⟩⟩),(.int .i64 0)] []))⟩,ze 4 2 181,zk 3 0] (.ret))))))))))))
theorem t68:T 68=some ⟨c68.toC,[.ldN 4 2,.tmp 3]⟩:=by kernel_rfl
noncomputable def c69:MCode:=g0 [yq 0 83 0 0] (g0 [⟨(some 1),none,(.p (.build [(.int .i64 0),(.bool false),(.int .i64 0)] []))⟩,ze 3 0 1] (.ret))
theorem t69:T 69=some ⟨c69.toC,[.ldN 3 0]⟩:=by kernel_rfl
noncomputable def c70:MCode:=g0 [zx 6] (g0 [za 7 0,zf 8 55 7,za 9 8,zp 10 9 1,zp 11 9 0,yh 12 9 11,zz 13 9 0 12,zu 14 9 13,xn 15 9 14,xp 16 9 10 15,zn 17 9 16,za 18 17,zp 19 18 0,yh 20 18 19,zz 21 18 0 20,zu 22 18 21,zp 23 18 1,yl 24 18 4 22 23,zz 25 18 0 24,zu 26 18 25,⟨(some 27),(some (18,true)),(.p (.bin .eql (.tmp 26) (.const (.int .i64 6))))⟩,zn 28 18 27,za 29 28,zp 30 29 0,yh 31 29 30,zz 32 29 0 31,zu 33 29 32,zp 34 29 1,yl 35 29 4 33 34,zz 36 29 2 35,zu 37 29 36,zp 38 29 2,xb 39 29 37 38,zn 40 29 39,za 6 40] (.ret))
theorem t70:T 70=some ⟨c70.toC,[.tmp 6]⟩:=by kernel_rfl
noncomputable def s71_0:List MStep:=[za 3 0,zh 4 3,zb 5 1 4,zc 6 5,za 7 0,zh 8 7,zb 9 0 8,zc 10 9,zr 11 10,zt 12 6 11]
noncomputable def g71_0:List MStage:=[]
theorem d71_0:okD s71_0 g71_0:=⟨by kernel_rfl,trivial⟩
noncomputable def s71_1:List MStep:=[za 13 0,zh 14 13,zb 15 0 14,zc 16 15,za 17 0,zh 18 17,zb 19 1 18,zc 20 19,zm 21 4 16 20,zb 22 1 21,zc 23 22]
noncomputable def g71_1:List MStage:=[⟨za 2 23,[],[]⟩]
theorem d71_1:okD s71_1 g71_1:=⟨by kernel_rfl,by kernel_rfl,trivial⟩
noncomputable def c71:MCode:=g0 [zk 2 0] (.seq (.seq (.dregion s71_0 g71_0) (g2 12 (.seq (.dregion s71_1 g71_1) (.ret)) (.skip))) (g0 [za 24 0,zh 25 24,zb 26 2 25,zc 27 26,za 2 27] (.ret)))
theorem t71:T 71=some ⟨c71.toC,[.tmp 2]⟩:=by kernel_rfl
noncomputable def c72:MCode:=.seq (g0 [za 4 0,za 5 1,zj 6 56 4 5,yf 7 6] (g2 7 (g0 [za 8 0,zf 9 63 8] (.ret)) (.skip))) (.region [za 10 0,za 11 0,zh 12 11,zb 13 1 12,zc 14 13,zg 15 14 1,zh 16 10,zb 17 1 16,zq 17 15])
theorem t72:T 72=some ⟨c72.toC,[]⟩:=by kernel_rfl
noncomputable def s73_0:List MStep:=[za 19 0,zh 20 19,zb 21 0 20,zc 22 21,za 23 0,zh 24 23,zb 25 1 24,zc 26 25,ye 27 26 1,zm 28 4 22 27,zb 29 2 28,zc 30 29]
noncomputable def g73_0:List MStage:=[⟨za 4 30,[],[]⟩]
theorem d73_0:okD s73_0 g73_0:=⟨by kernel_rfl,by kernel_rfl,trivial⟩
noncomputable def c73:MCode:=g0 [⟨(some 4),none,(.p (.mov (.const (.string ⟨⟨[]⟩⟩))))⟩] (.seq (g0 [za 5 0,za 6 1,zj 7 74 5 6,yf 8 7] (g2 8 (g0 [za 9 0,zf 10 63 9] (g0 [⟨(some 4),none,(.p (.mov (.const (.string ⟨⟨[]⟩⟩))))⟩] (.ret))) (.skip))) (g0 [za 11 0,za 12 0,zh 13 12,zb 14 1 13,zc 15 14,zg 16 15 1,zh 17 11,zb 18 1 17,zq 18 16] (.seq (.dregion s73_0 g73_0) (.ret))))
theorem t73:T 73=some ⟨c73.toC,[.tmp 4]⟩:=by kernel_rfl
noncomputable def s74_0:List MStep:=[za 5 0]
noncomputable def g74_0:List MStage:=[⟨zf 6 55 5,[],[za 7 6,zp 8 7 0,yh 9 7 8,zz 10 7 1 9,zu 11 7 10,zp 12 7 0,yh 13 7 12,zz 14 7 0 13,zu 15 7 14,xn 16 7 15,xp 17 7 11 16,zn 18 7 17,za 19 18,zp 20 19 0,yh 21 19 20,zz 22 19 0 21,zu 23 19 22,zp 24 19 0,yh 25 19 24,zz 26 19 1 25,zu 27 19 26,yl 28 19 4 23 27,zz 29 19 0 28,zu 30 19 29,zp 31 19 1,xb 32 19 30 31,zn 33 19 32]⟩,⟨za 4 33,[],[]⟩]
theorem d74_0:okD s74_0 g74_0:=⟨by kernel_rfl,by kernel_rfl,by kernel_rfl,trivial⟩
noncomputable def c74:MCode:=g0 [zx 4] (.seq (.dregion s74_0 g74_0) (.ret))
theorem t74:T 74=some ⟨c74.toC,[.tmp 4]⟩:=by kernel_rfl
noncomputable def c75:MCode:=g0 [zx 2] (g0 [za 3 0,zo 4 74 3 1,za 5 4,ya 6 5 0,xi 7 5 74 6 2,zw 8 5 7,za 9 8,ya 10 9 0,⟨(some 11),(some (9,false)),(.call 56 [(.tmp 10),(.const (.string ⟨⟨[40]⟩⟩))])⟩,zw 12 9 11,za 2 12] (.ret))
theorem t75:T 75=some ⟨c75.toC,[.tmp 2]⟩:=by kernel_rfl
noncomputable def c76:MCode:=g0 [⟨(some 2),none,(.alloc 30 [(.int .i64 0),(.string ⟨⟨[]⟩⟩),(.slice none 0 0)])⟩] (.seq (.block 0 (g0 [za 5 0,zo 6 74 5 1,za 4 6] (g2 4 (g0 [za 7 0,zo 8 73 7 1,⟨(some 9),none,(.p (.build [(.int .i64 0),(.string ⟨⟨[]⟩⟩),(.slice none 0 0)] [(0,1,(.const (.int .i64 1))),(1,1,(.tmp 8))]))⟩,ze 3 2 9] (.ret)) (g0 [za 11 0,zo 12 74 11 2,za 10 12] (g2 10 (g0 [za 13 0,zo 14 73 13 2,⟨(some 15),none,(.p (.build [(.int .i64 0),(.string ⟨⟨[]⟩⟩),(.slice none 0 0)] [(0,1,(.const (.int .i64 2))),(1,1,(.tmp 14))]))⟩,ze 3 2 15] (.ret)) (g0 [za 17 0,⟨(some 18),none,(.call 56 [(.tmp 17),(.const (.string ⟨⟨[40]⟩⟩))])⟩,za 16 18] (g2 16 (g0 [za 19 0,zf 20 95 19] (g0 [za 21 0,zf 22 96 21,⟨some 3,none,(.ini false 30 [(.int .i64 0),(.string ⟨⟨[]⟩⟩),(.slice none 0 0)] (.tmp 22))⟩] (g0 [za 23 0,⟨(some 24),none,(.call 72 [(.tmp 23),(.const (.string ⟨⟨[41]⟩⟩))])⟩] (g0 [za 25 0,zf 26 97 25] (g0 [zd 27 3 3,ze 3 2 27] (.ret)))))) (.skip)))))))) (g0 [za 28 0,zf 29 63 28] (g0 [⟨(some 30),none,(.p (.build [(.int .i64 0),(.string ⟨⟨[]⟩⟩),(.slice none 0 0)] []))⟩,ze 3 2 30] (.ret))))
theorem t76:T 76=some ⟨c76.toC,[.ldN 3 2]⟩:=by kernel_rfl
noncomputable def l77_0:MCode:=.seq (g0 [za 25 0,⟨(some 26),none,(.call 56 [(.tmp 25),(.const (.string ⟨⟨[44]⟩⟩))])⟩] (g1 26 0)) (.block 1 (g0 [za 27 0,za 28 0,zh 29 28,zb 30 1 29,zc 31 30,zg 32 31 1,zh 33 27,zb 34 1 33,zq 34 32] (.region [za 35 5,za 36 0,za 37 1,zj 38 99 36 37,⟨(some 39),none,(.bsl 156 [(.string ⟨⟨[]⟩⟩),(.int .i64 0),(.string ⟨⟨[]⟩⟩),(.slice none 0 0)] 1 [(0,4,(.tmp 38))])⟩,zl 40 156 4 64 35 39,za 5 40])))
noncomputable def c77:MCode:=g0 [zv 4 0 0] (.seq (g0 [za 6 0,zf 7 98 6,yf 8 7] (g2 8 (g0 [zv 4 0 0] (.ret)) (.skip))) (g0 [zv 5 0 0] (.seq (g0 [za 9 0,⟨(some 10),none,(.call 56 [(.tmp 9),(.const (.string ⟨⟨[40]⟩⟩))])⟩] (g2 10 (g0 [za 11 0,za 12 0,zh 13 12,zb 14 1 13,zc 15 14,zg 16 15 1,zh 17 11,zb 18 1 17,zq 18 16] (g0 [za 19 5,za 20 0,za 21 1,zj 22 99 20 21,⟨(some 23),none,(.bsl 156 [(.string ⟨⟨[]⟩⟩),(.int .i64 0),(.string ⟨⟨[]⟩⟩),(.slice none 0 0)] 1 [(0,4,(.tmp 22))])⟩,zl 24 156 4 64 19 23,za 5 24] (.seq (.block 0 (.loop l77_0)) (.region [za 41 0,⟨(some 42),none,(.call 72 [(.tmp 41),(.const (.string ⟨⟨[41]⟩⟩))])⟩])))) (.region [za 43 5,za 44 0,za 45 1,zj 46 99 44 45,⟨(some 47),none,(.bsl 156 [(.string ⟨⟨[]⟩⟩),(.int .i64 0),(.string ⟨⟨[]⟩⟩),(.slice none 0 0)] 1 [(0,4,(.tmp 46))])⟩,zl 48 156 4 64 43 47,za 5 48]))) (g0 [za 49 0,⟨(some 50),none,(.call 72 [(.tmp 49),(.const (.string ⟨⟨[61,62]⟩⟩))])⟩] (g0 [za 51 5,za 4 51] (.ret))))))
theorem t77:T 77=some ⟨c77.toC,[.tmp 4]⟩:=by kernel_rfl
noncomputable def c78:MCode:=g0 [za 6 0,zf 7 55 6] (g2 7 (.region [za 8 0,za 9 1,za 10 2,zj 11 67 9 10,zh 12 8,zb 13 3 12,yc 3 13 11]) (.skip))
theorem t78:T 78=some ⟨c78.toC,[]⟩:=by kernel_rfl
noncomputable def l79_0:MCode:=.seq (g0 [za 7 0,⟨(some 8),none,(.call 56 [(.tmp 7),(.const (.string ⟨⟨[59]⟩⟩))])⟩] (g1 8 2)) (.block 3 (.region [za 9 0,za 10 0,zh 11 10,zb 12 1 11,zc 13 12,zg 14 13 1,zh 15 9,zb 16 1 15,zq 16 14]))
noncomputable def l79_1:MCode:=.seq (g0 [za 5 0,zf 6 55 5] (g1 6 0)) (.block 1 (.seq (.block 2 (.loop l79_0)) (.seq (g0 [za 17 0,⟨(some 18),none,(.call 56 [(.tmp 17),(.const (.string ⟨⟨[125]⟩⟩))])⟩] (g2 18 (.exit 0) (.skip))) (g0 [za 19 0,zh 20 19,zb 21 1 20,zc 22 21,za 4 22] (g0 [za 23 0,zf 24 80 23] (.seq (g0 [za 25 0,⟨(some 26),none,(.call 56 [(.tmp 25),(.const (.string ⟨⟨[58,58]⟩⟩))])⟩] (g2 26 (.region [za 27 0,zf 28 63 27]) (.skip))) (.seq (g0 [za 29 0,zf 30 55 29] (g2 30 (g0 [za 31 0,za 32 4,zh 33 31,zb 34 1 33,zq 34 32] (.region [za 36 0,za 37 3,⟨(some 38),none,(.call 60 [(.tmp 36),(.const (.slice none 0 0)),(.tmp 37)])⟩,za 35 38,zi 39 35 0,zi 40 35 1,za 3 40])) (.skip))) (.region [za 41 0,xd 42 61 41]))))))))
noncomputable def c79:MCode:=g0 [zv 2 0 0] (g0 [zv 3 0 0] (.seq (.block 0 (.loop l79_1)) (g0 [za 43 3,za 2 43] (.ret))))
theorem t79:T 79=some ⟨c79.toC,[.tmp 2]⟩:=by kernel_rfl
noncomputable def c80:MCode:=g0 [⟨(some 2),none,(.p (.mov (.const (.string ⟨⟨[]⟩⟩))))⟩,zk 3 0] (.seq (g0 [za 7 0,⟨(some 8),none,(.call 56 [(.tmp 7),(.const (.string ⟨⟨[40]⟩⟩))])⟩] (g2 8 (g0 [za 9 0,za 10 0,zh 11 10,zb 12 1 11,zc 13 12,zg 14 13 1,zh 15 9,zb 16 1 15,zq 16 14] (g0 [za 17 0,zf 18 71 17,za 4 18] (g0 [za 19 0,zo 20 73 19 5,za 5 20] (g0 [za 21 0,⟨(some 22),none,(.call 72 [(.tmp 21),(.const (.string ⟨⟨[41]⟩⟩))])⟩] (g0 [za 23 5,za 24 4,za 2 23,za 3 24] (.ret)))))) (.skip))) (g0 [za 25 0,zf 26 71 25,za 6 26] (g0 [za 27 0,zo 28 73 27 1,za 29 6,za 2 28,za 3 29] (.ret))))
theorem t80:T 80=some ⟨c80.toC,[.tmp 2,.tmp 3]⟩:=by kernel_rfl
noncomputable def s81_0:List MStep:=[zb 22 0 3,zc 23 22,zb 24 1 3,zc 25 24,za 26 4,zm 27 4 25 26,zb 28 1 27,zd 29 3 28]
noncomputable def g81_0:List MStage:=[⟨zj 30 100 23 29,[],[zb 31 0 3]⟩,⟨zq 31 30,[],[]⟩]
theorem d81_0:okD s81_0 g81_0:=⟨by kernel_rfl,by kernel_rfl,by kernel_rfl,trivial⟩
noncomputable def l81_1:MCode:=.seq (g0 [za 15 4,zb 16 1 3,zc 17 16,zr 18 17,zt 19 15 18] (g1 19 0)) (.seq (.block 1 (.dregion s81_0 g81_0)) (.region [za 20 4,zg 21 20 1,za 4 21]))
noncomputable def c81:MCode:=g0 [⟨(some 2),none,(.alloc 159 [(.slice none 0 0),(.slice none 0 0),(.int .i64 0),(.string ⟨⟨[]⟩⟩),(.slice none 0 0)])⟩] (g0 [⟨(some 3),none,(.alloc 159 [(.slice none 0 0),(.slice none 0 0),(.int .i64 0),(.string ⟨⟨[]⟩⟩),(.slice none 0 0)])⟩] (g0 [za 5 0,⟨(some 6),none,(.call 77 [(.tmp 5),(.const (.bool false))])⟩,zb 7 1 3,zq 7 6] (g0 [za 8 0,zf 9 96 8,zb 10 2 3,yc 3 10 9] (g0 [zb 11 2 3,zd 12 3 11,⟨(some 13),none,(.call 100 [(.const (.slice none 0 0)),(.tmp 12)])⟩,zb 14 0 3,zq 14 13] (.seq (g0 [zk 4 0] (.block 0 (.loop l81_1))) (g0 [zd 32 5 3,ze 5 2 32] (.ret)))))))
theorem t81:T 81=some ⟨c81.toC,[.ldN 5 2]⟩:=by kernel_rfl
noncomputable def l82_0:MCode:=.seq (g0 [za 24 0,zo 25 74 24 1] (g1 25 1)) (.block 2 (.region [za 26 4,za 27 0,zo 28 73 27 1,⟨(some 29),none,(.bsl 9 [(.string ⟨⟨[]⟩⟩)] 1 [(0,1,(.tmp 28))])⟩,zl 30 9 1 16 26 29,za 4 30]))
noncomputable def c82:MCode:=g0 [⟨(some 2),none,(.alloc 171 [(.int .i64 0),(.int .i64 0),(.string ⟨⟨[]⟩⟩),(.int .i64 0),(.slice none 0 0),(.slice none 0 0),(.slice none 0 0)])⟩] (g0 [za 14 0,zf 15 71 14,za 3 15] (.seq (.block 0 (g0 [za 17 0,⟨(some 18),none,(.call 56 [(.tmp 17),(.const (.string ⟨⟨[92]⟩⟩))])⟩,za 16 18] (g2 16 (g0 [za 19 0,zf 20 95 19] (g0 [za 21 0,zo 22 73 21 1,⟨(some 23),none,(.oth (.a (.bsl 9 [(.string ⟨⟨[]⟩⟩)] 1 [(0,1,(.tmp 22))])))⟩,za 4 23] (.seq (.block 1 (.loop l82_0)) (g0 [za 31 0,⟨(some 32),none,(.call 72 [(.tmp 31),(.const (.string ⟨⟨[45,62]⟩⟩))])⟩] (g0 [za 33 0,zf 34 82 33,⟨some 5,none,(.ini false 171 [(.int .i64 0),(.int .i64 0),(.string ⟨⟨[]⟩⟩),(.int .i64 0),(.slice none 0 0),(.slice none 0 0),(.slice none 0 0)] (.tmp 34))⟩] (g0 [za 35 0,zf 36 97 35] (g0 [za 37 4,zd 38 7 5,za 39 3,yd 40 83 37 38 39,ze 7 2 40] (.ret)))))))) (g0 [za 42 0,⟨(some 43),none,(.call 56 [(.tmp 42),(.const (.string ⟨⟨[108,101,116]⟩⟩))])⟩,za 41 43] (g2 41 (g0 [za 44 0,zf 45 95 44] (g0 [za 46 0,⟨(some 47),none,(.call 72 [(.tmp 46),(.const (.string ⟨⟨[123]⟩⟩))])⟩] (g0 [za 48 0,zf 49 101 48,za 6 49] (g0 [za 50 0,⟨(some 51),none,(.call 72 [(.tmp 50),(.const (.string ⟨⟨[125]⟩⟩))])⟩] (g0 [za 52 0,⟨(some 53),none,(.call 72 [(.tmp 52),(.const (.string ⟨⟨[105,110]⟩⟩))])⟩] (g0 [za 54 0,zf 55 82 54,⟨some 7,none,(.ini false 171 [(.int .i64 0),(.int .i64 0),(.string ⟨⟨[]⟩⟩),(.int .i64 0),(.slice none 0 0),(.slice none 0 0),(.slice none 0 0)] (.tmp 55))⟩] (g0 [za 56 0,zf 57 97 56] (g0 [za 58 3,za 59 6,zd 60 7 7,⟨(some 61),none,(.bsl 171 [(.int .i64 0),(.int .i64 0),(.string ⟨⟨[]⟩⟩),(.int .i64 0),(.slice none 0 0),(.slice none 0 0),(.slice none 0 0)] 1 [(0,7,(.tmp 60))])⟩,⟨(some 62),none,(.p (.build [(.int .i64 0),(.int .i64 0),(.string ⟨⟨[]⟩⟩),(.int .i64 0),(.slice none 0 0),(.slice none 0 0),(.slice none 0 0)] [(0,1,(.const (.int .i64 7))),(1,1,(.tmp 58)),(6,1,(.tmp 59)),(4,1,(.tmp 61))]))⟩,ze 7 2 62] (.ret))))))))) (g0 [za 64 0,⟨(some 65),none,(.call 56 [(.tmp 64),(.const (.string ⟨⟨[99,97,115,101]⟩⟩))])⟩,za 63 65] (g2 63 (g0 [za 66 0,zf 67 95 66] (g0 [za 68 0,zf 69 82 68,⟨some 8,none,(.ini false 171 [(.int .i64 0),(.int .i64 0),(.string ⟨⟨[]⟩⟩),(.int .i64 0),(.slice none 0 0),(.slice none 0 0),(.slice none 0 0)] (.tmp 69))⟩] (g0 [za 70 0,⟨(some 71),none,(.call 72 [(.tmp 70),(.const (.string ⟨⟨[111,102]⟩⟩))])⟩] (g0 [za 72 0,⟨(some 73),none,(.call 72 [(.tmp 72),(.const (.string ⟨⟨[123]⟩⟩))])⟩] (g0 [za 74 0,zf 75 102 74,za 9 75] (g0 [za 76 0,⟨(some 77),none,(.call 72 [(.tmp 76),(.const (.string ⟨⟨[125]⟩⟩))])⟩] (g0 [za 78 0,zf 79 97 78] (g0 [za 80 3,za 81 9,zd 82 7 8,⟨(some 83),none,(.bsl 171 [(.int .i64 0),(.int .i64 0),(.string ⟨⟨[]⟩⟩),(.int .i64 0),(.slice none 0 0),(.slice none 0 0),(.slice none 0 0)] 1 [(0,7,(.tmp 82))])⟩,⟨(some 84),none,(.p (.build [(.int .i64 0),(.int .i64 0),(.string ⟨⟨[]⟩⟩),(.int .i64 0),(.slice none 0 0),(.slice none 0 0),(.slice none 0 0)] [(0,1,(.const (.int .i64 8))),(1,1,(.tmp 80)),(5,1,(.tmp 81)),(4,1,(.tmp 83))]))⟩,ze 7 2 84] (.ret))))))))) (g0 [za 86 0,⟨(some 87),none,(.call 56 [(.tmp 86),(.const (.string ⟨⟨[105,102]⟩⟩))])⟩,za 85 87] (g2 85 (g0 [za 88 0,zf 89 95 88] (g0 [za 90 0,zf 91 82 90,⟨some 10,none,(.ini false 171 [(.int .i64 0),(.int .i64 0),(.string ⟨⟨[]⟩⟩),(.int .i64 0),(.slice none 0 0),(.slice none 0 0),(.slice none 0 0)] (.tmp 91))⟩] (g0 [za 92 0,⟨(some 93),none,(.call 72 [(.tmp 92),(.const (.string ⟨⟨[116,104,101,110]⟩⟩))])⟩] (g0 [za 94 0,zf 95 82 94,⟨some 11,none,(.ini false 171 [(.int .i64 0),(.int .i64 0),(.string ⟨⟨[]⟩⟩),(.int .i64 0),(.slice none 0 0),(.slice none 0 0),(.slice none 0 0)] (.tmp 95))⟩] (g0 [za 96 0,⟨(some 97),none,(.call 72 [(.tmp 96),(.const (.string ⟨⟨[101,108,115,101]⟩⟩))])⟩] (g0 [za 98 0,zf 99 82 98,⟨some 12,none,(.ini false 171 [(.int .i64 0),(.int .i64 0),(.string ⟨⟨[]⟩⟩),(.int .i64 0),(.slice none 0 0),(.slice none 0 0),(.slice none 0 0)] (.tmp 99))⟩] (g0 [za 100 0,zf 101 97 100] (g0 [za 102 3,zd 103 7 10,⟨(some 104),none,(.bsl 171 [(.int .i64 0),(.int .i64 0),(.string ⟨⟨[]⟩⟩),(.int .i64 0),(.slice none 0 0),(.slice none 0 0),(.slice none 0 0)] 1 [(0,7,(.tmp 103))])⟩,zd 105 7 11,za 106 3,⟨(some 107),none,(.p (.build [(.string ⟨⟨[]⟩⟩),(.slice none 0 0),(.int .i64 0),(.int .i64 0),(.string ⟨⟨[]⟩⟩),(.int .i64 0),(.slice none 0 0),(.slice none 0 0),(.slice none 0 0),(.int .i64 0)] [(0,1,(.const (.string ⟨⟨[84,114,117,101]⟩⟩))),(2,7,(.tmp 105)),(9,1,(.tmp 106))]))⟩,zd 108 7 12,za 109 3,⟨(some 110),none,(.p (.build [(.string ⟨⟨[]⟩⟩),(.slice none 0 0),(.int .i64 0),(.int .i64 0),(.string ⟨⟨[]⟩⟩),(.int .i64 0),(.slice none 0 0),(.slice none 0 0),(.slice none 0 0),(.int .i64 0)] [(0,1,(.const (.string ⟨⟨[70,97,108,115,101]⟩⟩))),(2,7,(.tmp 108)),(9,1,(.tmp 109))]))⟩,⟨(some 111),none,(.bsl 186 [(.string ⟨⟨[]⟩⟩),(.slice none 0 0),(.int .i64 0),(.int .i64 0),(.string ⟨⟨[]⟩⟩),(.int .i64 0),(.slice none 0 0),(.slice none 0 0),(.slice none 0 0),(.int .i64 0)] 2 [(0,10,(.tmp 107)),(10,10,(.tmp 110))])⟩,⟨(some 112),none,(.p (.build [(.int .i64 0),(.int .i64 0),(.string ⟨⟨[]⟩⟩),(.int .i64 0),(.slice none 0 0),(.slice none 0 0),(.slice none 0 0)] [(0,1,(.const (.int .i64 8))),(1,1,(.tmp 102)),(4,1,(.tmp 104)),(5,1,(.tmp 111))]))⟩,ze 7 2 112] (.ret))))))))) (.skip)))))))))) (g0 [za 113 0,zf 114 103 113,⟨some 13,none,(.ini false 171 [(.int .i64 0),(.int .i64 0),(.string ⟨⟨[]⟩⟩),(.int .i64 0),(.slice none 0 0),(.slice none 0 0),(.slice none 0 0)] (.tmp 114))⟩] (.seq (g0 [za 115 0,⟨(some 116),none,(.bsl 9 [(.string ⟨⟨[]⟩⟩)] 6 [(0,1,(.const (.string ⟨⟨[61,61]⟩⟩))),(1,1,(.const (.string ⟨⟨[47,61]⟩⟩))),(2,1,(.const (.string ⟨⟨[60]⟩⟩))),(3,1,(.const (.string ⟨⟨[60,61]⟩⟩))),(4,1,(.const (.string ⟨⟨[62]⟩⟩))),(5,1,(.const (.string ⟨⟨[62,61]⟩⟩)))])⟩,zj 117 104 115 116] (g2 117 (g0 [za 118 0,zd 119 7 13,⟨(some 120),none,(.call 105 [(.tmp 118),(.tmp 119),(.const (.int .i64 0))])⟩,ze 7 2 120] (.ret)) (.skip))) (g0 [zd 121 7 13,ze 7 2 121] (.ret))))))
theorem t82:T 82=some ⟨c82.toC,[.ldN 7 2]⟩:=by kernel_rfl
noncomputable def s83_0:List MStep:=[za 15 2,za 16 0,za 17 7,zm 18 1 16 17,zc 19 18,zd 20 7 4,⟨(some 21),none,(.bsl 171 [(.int .i64 0),(.int .i64 0),(.string ⟨⟨[]⟩⟩),(.int .i64 0),(.slice none 0 0),(.slice none 0 0),(.slice none 0 0)] 1 [(0,7,(.tmp 20))])⟩,⟨(some 22),none,(.p (.build [(.int .i64 0),(.int .i64 0),(.string ⟨⟨[]⟩⟩),(.int .i64 0),(.slice none 0 0),(.slice none 0 0),(.slice none 0 0)] [(0,1,(.const (.int .i64 6))),(1,1,(.tmp 15)),(2,1,(.tmp 19)),(4,1,(.tmp 21))]))⟩]
noncomputable def g83_0:List MStage:=[⟨yc 7 4 22,[],[]⟩]
theorem d83_0:okD s83_0 g83_0:=⟨by kernel_rfl,by kernel_rfl,trivial⟩
noncomputable def l83_1:MCode:=.seq (g0 [za 11 7,yj 12 11 0] (g1 12 0)) (.seq (.block 1 (.dregion s83_0 g83_0)) (.region [za 13 7,ye 14 13 1,za 7 14]))
noncomputable def c83:MCode:=g0 [yx 4 171 1,⟨(some 6),none,(.alloc 171 [(.int .i64 0),(.int .i64 0),(.string ⟨⟨[]⟩⟩),(.int .i64 0),(.slice none 0 0),(.slice none 0 0),(.slice none 0 0)])⟩] (.seq (g0 [za 8 0,zr 9 8,ye 10 9 1,za 7 10] (.block 0 (.loop l83_1))) (g0 [zd 23 7 4,ze 7 6 23] (.ret)))
theorem t83:T 83=some ⟨c83.toC,[.ldN 7 6]⟩:=by kernel_rfl
noncomputable def c88:MCode:=g0 [zx 2] (g0 [za 3 0,⟨(some 4),none,(.p (.bin .geq (.tmp 3) (.const (.int .u8 97))))⟩,za 5 4,zp 6 5 0,xg 7 5 6 122,zn 8 5 7,za 9 8,ya 10 9 0,yw 11 9 10 95,zw 12 9 11,za 2 12] (.ret))
theorem t88:T 88=some ⟨c88.toC,[.tmp 2]⟩:=by kernel_rfl
noncomputable def c89:MCode:=g0 [zx 2] (g0 [za 3 0,⟨(some 4),none,(.p (.bin .geq (.tmp 3) (.const (.int .u8 65))))⟩,za 5 4,zp 6 5 0,xg 7 5 6 90,zn 8 5 7,za 2 8] (.ret))
theorem t89:T 89=some ⟨c89.toC,[.tmp 2]⟩:=by kernel_rfl
noncomputable def c90:MCode:=g0 [zx 2] (g0 [za 3 0,zf 4 88 3,za 5 4,ya 6 5 0,⟨(some 7),(some (5,false)),(.call 89 [(.tmp 6)])⟩,zw 8 5 7,za 9 8,ya 10 9 0,⟨(some 11),(some (9,false)),(.call 92 [(.tmp 10)])⟩,zw 12 9 11,za 13 12,ya 14 13 0,yw 15 13 14 39,zw 16 13 15,za 2 16] (.ret))
theorem t90:T 90=some ⟨c90.toC,[.tmp 2]⟩:=by kernel_rfl
noncomputable def c91:MCode:=g0 [zx 2] (g0 [xo 3 109,za 4 0,zj 5 108 3 4,za 2 5] (.ret))
theorem t91:T 91=some ⟨c91.toC,[.tmp 2]⟩:=by kernel_rfl
noncomputable def c92:MCode:=g0 [zx 2] (g0 [za 3 0,⟨(some 4),none,(.p (.bin .geq (.tmp 3) (.const (.int .u8 48))))⟩,za 5 4,zp 6 5 0,xg 7 5 6 57,zn 8 5 7,za 2 8] (.ret))
theorem t92:T 92=some ⟨c92.toC,[.tmp 2]⟩:=by kernel_rfl
noncomputable def s93_0:List MStep:=[za 27 0,yk 28 1 27 2,zc 29 28,⟨(some 30),none,(.p (.i2i .i64 (.tmp 29)))⟩]
noncomputable def g93_0:List MStage:=[⟨zk 2 4,[⟨29,none,(.ld1 (.tmp 28))⟩],[]⟩,⟨za 3 30,[],[]⟩]
theorem d93_0:okD s93_0 g93_0:=⟨by kernel_rfl,by kernel_rfl,by kernel_rfl,trivial⟩
noncomputable def s93_1:List MStep:=[za 64 0,yk 65 1 64 1,zc 66 65,⟨(some 67),none,(.p (.i2i .i64 (.tmp 66)))⟩]
noncomputable def g93_1:List MStage:=[⟨zk 2 3,[⟨66,none,(.ld1 (.tmp 65))⟩],[]⟩,⟨za 3 67,[],[]⟩]
theorem d93_1:okD s93_1 g93_1:=⟨by kernel_rfl,by kernel_rfl,by kernel_rfl,trivial⟩
noncomputable def c93:MCode:=g0 [zk 2 0,zk 3 0] (.seq (g0 [za 4 0,zr 5 4,yj 6 5 4,za 7 6,zp 8 7 0,yp 9 7 1 8 1,zu 10 7 9,xf 11 7 10 92,zn 12 7 11,za 13 12,zp 14 13 0,yp 15 13 1 14 3,zu 16 13 15,xf 17 13 16 39,zn 18 13 17] (g2 18 (.seq (g0 [za 19 0,yk 20 1 19 2,zc 21 20] (.block 0 (g0 [yv 23 21 110,za 22 23] (g2 22 (g0 [zk 2 4,zk 3 10] (.ret)) (.seq (g0 [yv 25 21 39,za 24 25] (g2 24 (.skip) (.region [yv 26 21 92,za 24 26]))) (g2 24 (.seq (.dregion s93_0 g93_0) (.ret)) (.skip))))))) (g0 [zk 2 0,zk 3 0] (.ret))) (.skip))) (.seq (g0 [za 31 0,zr 32 31,yj 33 32 3,za 34 33,zp 35 34 0,yp 36 34 1 35 1,zu 37 34 36,⟨(some 38),(some (34,true)),(.p (.bin .geq (.tmp 37) (.const (.int .u8 32))))⟩,zn 39 34 38,za 40 39,zp 41 40 0,yp 42 40 1 41 1,zu 43 40 42,xg 44 40 43 126,zn 45 40 44,za 46 45,zp 47 46 0,yp 48 46 1 47 1,zu 49 46 48,⟨(some 50),(some (46,true)),(.p (.bin .neq (.tmp 49) (.const (.int .u8 39))))⟩,zn 51 46 50,za 52 51,zp 53 52 0,yp 54 52 1 53 1,zu 55 52 54,⟨(some 56),(some (52,true)),(.p (.bin .neq (.tmp 55) (.const (.int .u8 92))))⟩,zn 57 52 56,za 58 57,zp 59 58 0,yp 60 58 1 59 2,zu 61 58 60,xf 62 58 61 39,zn 63 58 62] (g2 63 (.seq (.dregion s93_1 g93_1) (.ret)) (.skip))) (g0 [zk 2 0,zk 3 0] (.ret))))
theorem t93:T 93=some ⟨c93.toC,[.tmp 2,.tmp 3]⟩:=by kernel_rfl
noncomputable def c94:MCode:=g0 [zv 0 0 0] (g0 [⟨(some 1),none,(.bsl 9 [(.string ⟨⟨[]⟩⟩)] 9 [(0,1,(.const (.string ⟨⟨[61,61]⟩⟩))),(1,1,(.const (.string ⟨⟨[47,61]⟩⟩))),(2,1,(.const (.string ⟨⟨[60,61]⟩⟩))),(3,1,(.const (.string ⟨⟨[62,61]⟩⟩))),(4,1,(.const (.string ⟨⟨[60]⟩⟩))),(5,1,(.const (.string ⟨⟨[62]⟩⟩))),(6,1,(.const (.string ⟨⟨[43]⟩⟩))),(7,1,(.const (.string ⟨⟨[45]⟩⟩))),(8,1,(.const (.string ⟨⟨[42]⟩⟩)))])⟩,za 0 1] (.ret))
theorem t94:T 94=some ⟨c94.toC,[.tmp 0]⟩:=by kernel_rfl
noncomputable def c95:MCode:=.seq (g0 [za 2 0,zh 3 2,zb 4 6 3,zc 5 4,yj 6 5 200] (g2 6 (g0 [za 7 0,za 8 0,zf 9 71 8,yz 10 78 7 111 9] (.ret)) (.skip))) (g0 [za 11 0,za 12 0,zh 13 12,zb 14 6 13,zc 15 14,zg 16 15 1,zh 17 11,zb 18 6 17,zq 18 16] (.region [za 19 0,za 20 0,zh 21 20,zb 22 1 21,zc 23 22,zg 24 23 1,zh 25 19,zb 26 1 25,zq 26 24]))
theorem t95:T 95=some ⟨c95.toC,[]⟩:=by kernel_rfl
noncomputable def s96_0:List MStep:=[zd 16 3 3,za 17 0]
noncomputable def g96_0:List MStage:=[⟨zf 18 96 17,[⟨16,none,(.ldN 3 (.tmp 3))⟩],[⟨(some 19),none,(.bsl 30 [(.int .i64 0),(.string ⟨⟨[]⟩⟩),(.slice none 0 0)] 2 [(0,3,(.tmp 16)),(3,3,(.tmp 18))])⟩,⟨(some 20),none,(.p (.build [(.int .i64 0),(.string ⟨⟨[]⟩⟩),(.slice none 0 0)] [(0,1,(.const (.int .i64 3))),(2,1,(.tmp 19))]))⟩]⟩,⟨ze 3 2 20,[],[]⟩]
theorem d96_0:okD s96_0 g96_0:=⟨by kernel_rfl,by kernel_rfl,by kernel_rfl,trivial⟩
noncomputable def c96:MCode:=g0 [⟨(some 2),none,(.alloc 30 [(.int .i64 0),(.string ⟨⟨[]⟩⟩),(.slice none 0 0)])⟩] (g0 [za 4 0,zf 5 110 4,⟨some 3,none,(.ini false 30 [(.int .i64 0),(.string ⟨⟨[]⟩⟩),(.slice none 0 0)] (.tmp 5))⟩] (.seq (g0 [za 6 0,⟨(some 7),none,(.call 56 [(.tmp 6),(.const (.string ⟨⟨[45,62]⟩⟩))])⟩] (g2 7 (g0 [za 8 0,za 9 0,zh 10 9,zb 11 1 10,zc 12 11,zg 13 12 1,zh 14 8,zb 15 1 14,zq 15 13] (.seq (.dregion s96_0 g96_0) (.ret))) (.skip))) (g0 [zd 21 3 3,ze 3 2 21] (.ret))))
theorem t96:T 96=some ⟨c96.toC,[.ldN 3 2]⟩:=by kernel_rfl
noncomputable def c97:MCode:=.region [za 2 0,za 3 0,zh 4 3,zb 5 6 4,zc 6 5,ye 7 6 1,zh 8 2,zb 9 6 8,zq 9 7]
theorem t97:T 97=some ⟨c97.toC,[]⟩:=by kernel_rfl
noncomputable def c98:MCode:=g0 [zx 2] (.seq (g0 [za 3 0,⟨(some 4),none,(.call 56 [(.tmp 3),(.const (.string ⟨⟨[40]⟩⟩))])⟩] (g2 4 (g0 [za 5 0,za 6 0,za 7 0,zh 8 7,zb 9 1 8,zc 10 9,zj 11 111 6 10,⟨(some 12),none,(.call 70 [(.tmp 5),(.tmp 11),(.const (.string ⟨⟨[61,62]⟩⟩))])⟩,za 2 12] (.ret)) (.skip))) (g0 [za 13 0,zo 14 74 13 2,za 15 14,zp 16 15 0,zp 17 15 0,zp 18 15 0,yh 19 15 18,zz 20 15 1 19,zu 21 15 20,xe 22 15 21 1,yn 23 15 111 17 22,⟨(some 24),(some (15,true)),(.call 70 [(.tmp 16),(.tmp 23),(.const (.string ⟨⟨[61,62]⟩⟩))])⟩,zn 25 15 24,za 2 25] (.ret)))
theorem t98:T 98=some ⟨c98.toC,[.tmp 2]⟩:=by kernel_rfl
noncomputable def c99:MCode:=g0 [⟨(some 4),none,(.alloc 156 [(.string ⟨⟨[]⟩⟩),(.int .i64 0),(.string ⟨⟨[]⟩⟩),(.slice none 0 0)])⟩] (g0 [za 6 0,zo 7 73 6 2,⟨(some 8),none,(.p (.build [(.string ⟨⟨[]⟩⟩),(.int .i64 0),(.string ⟨⟨[]⟩⟩),(.slice none 0 0)] [(0,1,(.tmp 7))]))⟩,⟨(some 5),none,(.alloc 156 [(.string ⟨⟨[]⟩⟩),(.int .i64 0),(.string ⟨⟨[]⟩⟩),(.slice none 0 0)])⟩,yc 4 5 8] (.seq (g0 [za 9 1] (g2 9 (.region [za 10 0,zo 11 73 10 1,⟨(some 12),none,(.p (.build [(.int .i64 0),(.string ⟨⟨[]⟩⟩),(.slice none 0 0)] [(0,1,(.const (.int .i64 1))),(1,1,(.tmp 11))]))⟩,zb 13 1 5,yc 3 13 12]) (.region [za 14 0,zf 15 76 14,zb 16 1 5,yc 3 16 15]))) (g0 [zd 17 4 5,ze 4 4 17] (.ret))))
theorem t99:T 99=some ⟨c99.toC,[.ldN 4 4]⟩:=by kernel_rfl
noncomputable def s100_0:List MStep:=[za 16 0,zb 18 1 3,zc 19 18,⟨(some 20),none,(.bsl 9 [(.string ⟨⟨[]⟩⟩)] 1 [(0,1,(.tmp 19))])⟩]
noncomputable def g100_0:List MStage:=[⟨zf 17 112 16,[⟨19,none,(.ld1 (.tmp 18))⟩],[]⟩,⟨zl 21 9 1 16 17 20,[],[]⟩,⟨za 0 21,[],[]⟩]
theorem d100_0:okD s100_0 g100_0:=⟨by kernel_rfl,by kernel_rfl,by kernel_rfl,by kernel_rfl,trivial⟩
noncomputable def l100_1:MCode:=.seq (g0 [za 22 5,zb 23 2 3,zc 24 23,zr 25 24,zt 26 22 25] (g1 26 0)) (.seq (.block 1 (.region [za 29 0,zb 30 2 3,zc 31 30,za 32 5,zm 33 3 31 32,zd 34 3 33,zj 35 100 29 34,za 0 35])) (.region [za 27 5,zg 28 27 1,za 5 28]))
noncomputable def c100:MCode:=g0 [zy 3 30 1,zv 4 0 0] (.seq (g0 [zb 6 0 3,zc 7 6,zs 8 7 1,za 9 8,zp 10 9 0,zz 11 9 1 3,zu 12 9 11,yn 13 9 108 10 12,⟨(some 14),(some (9,true)),(.p (.un .not (.tmp 13)))⟩,zn 15 9 14] (g2 15 (.dregion s100_0 g100_0) (.skip))) (.seq (g0 [zk 5 0] (.block 0 (.loop l100_1))) (g0 [za 36 0,za 4 36] (.ret))))
theorem t100:T 100=some ⟨c100.toC,[.tmp 4]⟩:=by kernel_rfl
noncomputable def l101_0:MCode:=.seq (g0 [za 7 0,⟨(some 8),none,(.call 56 [(.tmp 7),(.const (.string ⟨⟨[59]⟩⟩))])⟩] (g1 8 2)) (.block 3 (.region [za 9 0,za 10 0,zh 11 10,zb 12 1 11,zc 13 12,zg 14 13 1,zh 15 9,zb 16 1 15,zq 16 14]))
noncomputable def l101_1:MCode:=.seq (g0 [za 5 0,zf 6 55 5] (g1 6 0)) (.block 1 (.seq (.block 2 (.loop l101_0)) (.seq (g0 [za 17 0,⟨(some 18),none,(.call 56 [(.tmp 17),(.const (.string ⟨⟨[125]⟩⟩))])⟩] (g2 18 (.exit 0) (.skip))) (g0 [za 20 0,za 21 3,za 22 4,yd 23 60 20 21 22,za 19 23,zi 24 19 0,zi 25 19 1,za 3 24,za 4 25] (.region [za 26 0,xd 27 61 26])))))
noncomputable def c101:MCode:=g0 [zv 2 0 0] (g0 [zv 3 0 0] (g0 [zv 4 0 0] (.seq (.block 0 (.loop l101_1)) (g0 [za 28 0,za 29 3,za 30 4,yd 31 62 28 29 30,za 2 31] (.ret)))))
theorem t101:T 101=some ⟨c101.toC,[.tmp 2]⟩:=by kernel_rfl
noncomputable def l102_0:MCode:=.seq (g0 [za 7 0,⟨(some 8),none,(.call 56 [(.tmp 7),(.const (.string ⟨⟨[59]⟩⟩))])⟩] (g1 8 2)) (.block 3 (.region [za 9 0,za 10 0,zh 11 10,zb 12 1 11,zc 13 12,zg 14 13 1,zh 15 9,zb 16 1 15,zq 16 14]))
noncomputable def s102_1:List MStep:=[zb 39 1 4,zc 40 39,za 41 0,zh 42 41,zb 43 0 42,zc 44 43,za 45 0,zh 46 45,zb 47 1 46,zc 48 47,zm 49 4 44 48,zb 50 2 49,zc 51 50,⟨(some 52),none,(.bsl 9 [(.string ⟨⟨[]⟩⟩)] 1 [(0,1,(.tmp 51))])⟩]
noncomputable def g102_1:List MStage:=[⟨zl 53 9 1 16 40 52,[],[zb 54 1 4]⟩,⟨zq 54 53,[],[]⟩]
theorem d102_1:okD s102_1 g102_1:=⟨by kernel_rfl,by kernel_rfl,by kernel_rfl,trivial⟩
noncomputable def l102_2:MCode:=.seq (g0 [za 33 0,zo 34 74 33 1,za 35 34,ya 36 35 0,⟨(some 37),(some (35,false)),(.call 56 [(.tmp 36),(.const (.string ⟨⟨[95]⟩⟩))])⟩,zw 38 35 37] (g1 38 5)) (.block 6 (.seq (.dregion s102_1 g102_1) (.region [za 55 0,za 56 0,zh 57 56,zb 58 1 57,zc 59 58,zg 60 59 1,zh 61 55,zb 62 1 61,zq 62 60])))
noncomputable def tl102_4:MCode:=g0 [za 74 0,⟨(some 75),none,(.call 72 [(.tmp 74),(.const (.string ⟨⟨[45,62]⟩⟩))])⟩] (g0 [za 76 0,zf 77 82 76,zb 78 2 4,yc 7 78 77] (g0 [za 79 3,zd 80 10 4,⟨(some 81),none,(.bsl 186 [(.string ⟨⟨[]⟩⟩),(.slice none 0 0),(.int .i64 0),(.int .i64 0),(.string ⟨⟨[]⟩⟩),(.int .i64 0),(.slice none 0 0),(.slice none 0 0),(.slice none 0 0),(.int .i64 0)] 1 [(0,10,(.tmp 80))])⟩,zl 82 186 10 160 79 81,za 3 82] (g0 [za 83 0,⟨(some 84),none,(.call 56 [(.tmp 83),(.const (.string ⟨⟨[59]⟩⟩))])⟩,yf 85 84,za 86 85,zp 87 86 0,⟨(some 88),(some (86,true)),(.call 56 [(.tmp 87),(.const (.string ⟨⟨[125]⟩⟩))])⟩,⟨(some 89),(some (86,true)),(.p (.un .not (.tmp 88)))⟩,zn 90 86 89] (g2 90 (.region [za 91 0,zf 92 63 91]) (.skip)))))
noncomputable def l102_3:MCode:=.seq (g0 [za 5 0,zf 6 55 5] (g1 6 0)) (.block 1 (.seq (.block 2 (.loop l102_0)) (.seq (g0 [za 17 0,⟨(some 18),none,(.call 56 [(.tmp 17),(.const (.string ⟨⟨[125]⟩⟩))])⟩] (g2 18 (g0 [za 19 3,za 2 19] (.ret)) (.skip))) (g0 [za 20 0,zf 21 71 20,⟨(some 22),none,(.p (.build [(.string ⟨⟨[]⟩⟩),(.slice none 0 0),(.int .i64 0),(.int .i64 0),(.string ⟨⟨[]⟩⟩),(.int .i64 0),(.slice none 0 0),(.slice none 0 0),(.slice none 0 0),(.int .i64 0)] [(9,1,(.tmp 21))]))⟩,⟨(some 4),none,(.alloc 186 [(.string ⟨⟨[]⟩⟩),(.slice none 0 0),(.int .i64 0),(.int .i64 0),(.string ⟨⟨[]⟩⟩),(.int .i64 0),(.slice none 0 0),(.slice none 0 0),(.slice none 0 0),(.int .i64 0)])⟩,yc 10 4 22] (.seq (.block 4 (g0 [za 28 0,zo 29 74 28 2,za 27 29] (g2 27 (g0 [za 30 0,zo 31 73 30 2,zb 32 0 4,zq 32 31] (.block 5 (.loop l102_2))) (g0 [za 64 0,⟨(some 65),none,(.call 56 [(.tmp 64),(.const (.string ⟨⟨[95]⟩⟩))])⟩,za 63 65] (g2 63 (.region [za 66 0,za 67 0,zh 68 67,zb 69 1 68,zc 70 69,zg 71 70 1,zh 72 66,zb 73 1 72,zq 73 71]) (.region [za 23 0,zo 24 73 23 1,⟨(some 25),none,(.bsl 9 [(.string ⟨⟨[]⟩⟩)] 1 [(0,1,(.tmp 24))])⟩,zb 26 1 4,zq 26 25])))))) tl102_4)))))
noncomputable def c102:MCode:=g0 [zv 2 0 0] (g0 [zv 3 0 0] (.seq (.block 0 (.loop l102_3)) (g0 [za 93 3,za 2 93] (.ret))))
theorem t102:T 102=some ⟨c102.toC,[.tmp 2]⟩:=by kernel_rfl
noncomputable def l103_0:MCode:=.seq (g0 [za 6 0,⟨(some 7),none,(.bsl 9 [(.string ⟨⟨[]⟩⟩)] 2 [(0,1,(.const (.string ⟨⟨[43]⟩⟩))),(1,1,(.const (.string ⟨⟨[45]⟩⟩)))])⟩,zj 8 104 6 7] (g1 8 0)) (.block 1 (.region [za 9 0,zd 10 7 3,⟨(some 11),none,(.call 105 [(.tmp 9),(.tmp 10),(.const (.int .i64 1))])⟩,yc 7 3 11]))
noncomputable def c103:MCode:=g0 [⟨(some 2),none,(.alloc 171 [(.int .i64 0),(.int .i64 0),(.string ⟨⟨[]⟩⟩),(.int .i64 0),(.slice none 0 0),(.slice none 0 0),(.slice none 0 0)])⟩] (g0 [za 4 0,zf 5 113 4,⟨(some 3),none,(.alloc 171 [(.int .i64 0),(.int .i64 0),(.string ⟨⟨[]⟩⟩),(.int .i64 0),(.slice none 0 0),(.slice none 0 0),(.slice none 0 0)])⟩,yc 7 3 5] (.seq (.block 0 (.loop l103_0)) (g0 [zd 12 7 3,ze 7 2 12] (.ret))))
theorem t103:T 103=some ⟨c103.toC,[.ldN 7 2]⟩:=by kernel_rfl
noncomputable def s104_0:List MStep:=[za 5 0]
noncomputable def g104_0:List MStage:=[⟨zo 6 74 5 5,[],[za 7 6,zp 8 7 1,zp 9 7 0,yh 10 7 9,zz 11 7 0 10,zu 12 7 11,zp 13 7 0,yh 14 7 13,zz 15 7 1 14,zu 16 7 15,yl 17 7 4 12 16,zz 18 7 2 17,zu 19 7 18]⟩,⟨yn 20 7 108 8 19,[],[zn 21 7 20]⟩,⟨za 4 21,[],[]⟩]
theorem d104_0:okD s104_0 g104_0:=⟨by kernel_rfl,by kernel_rfl,by kernel_rfl,by kernel_rfl,trivial⟩
noncomputable def c104:MCode:=g0 [zx 4] (.seq (.dregion s104_0 g104_0) (.ret))
theorem t104:T 104=some ⟨c104.toC,[.tmp 4]⟩:=by kernel_rfl
noncomputable def s105_0:List MStep:=[zd 27 7 8,zd 28 7 4,za 29 7,zd 31 7 9,za 32 7]
noncomputable def g105_0:List MStage:=[⟨yd 30 115 27 28 29,[⟨31,none,(.ldN 7 (.tmp 9))⟩],[]⟩,⟨yd 33 115 30 31 32,[],[]⟩,⟨ze 7 6 33,[],[]⟩]
theorem d105_0:okD s105_0 g105_0:=⟨by kernel_rfl,by kernel_rfl,by kernel_rfl,by kernel_rfl,trivial⟩
noncomputable def c105:MCode:=g0 [zy 4 171 1,⟨(some 6),none,(.alloc 171 [(.int .i64 0),(.int .i64 0),(.string ⟨⟨[]⟩⟩),(.int .i64 0),(.slice none 0 0),(.slice none 0 0),(.slice none 0 0)])⟩] (g0 [za 10 0,zf 11 71 10,za 7 11] (g0 [za 12 7,za 13 0,zo 14 73 13 5,⟨(some 15),none,(.p (.build [(.int .i64 0),(.int .i64 0),(.string ⟨⟨[]⟩⟩),(.int .i64 0),(.slice none 0 0),(.slice none 0 0),(.slice none 0 0)] [(0,1,(.const (.int .i64 1))),(1,1,(.tmp 12)),(2,1,(.tmp 14))]))⟩,⟨some 8,none,(.ini false 171 [(.int .i64 0),(.int .i64 0),(.string ⟨⟨[]⟩⟩),(.int .i64 0),(.slice none 0 0),(.slice none 0 0),(.slice none 0 0)] (.tmp 15))⟩] (g0 [⟨(some 9),none,(.alloc 171 [(.int .i64 0),(.int .i64 0),(.string ⟨⟨[]⟩⟩),(.int .i64 0),(.slice none 0 0),(.slice none 0 0),(.slice none 0 0)])⟩] (.seq (g0 [za 16 2] (.block 0 (g0 [zs 20 16 0,za 19 20] (g2 19 (.region [za 21 0,zf 22 103 21,ze 7 9 22]) (g0 [zs 24 16 1,za 23 24] (g2 23 (.region [za 25 0,zf 26 113 25,ze 7 9 26]) (.region [za 17 0,zf 18 114 17,ze 7 9 18]))))))) (.seq (.dregion s105_0 g105_0) (.ret))))))
theorem t105:T 105=some ⟨c105.toC,[.ldN 7 6]⟩:=by kernel_rfl
noncomputable def c108:MCode:=g0 [zx 4] (g0 [za 5 0,za 6 1,zj 7 117 5 6,yj 8 7 0,za 4 8] (.ret))
theorem t108:T 108=some ⟨c108.toC,[.tmp 4]⟩:=by kernel_rfl
noncomputable def c109:MCode:=g0 [zv 0 0 0] (g0 [⟨(some 1),none,(.bsl 9 [(.string ⟨⟨[]⟩⟩)] 12 [(0,1,(.const (.string ⟨⟨[100,97,116,97]⟩⟩))),(1,1,(.const (.string ⟨⟨[99,108,97,115,115]⟩⟩))),(2,1,(.const (.string ⟨⟨[105,110,115,116,97,110,99,101]⟩⟩))),(3,1,(.const (.string ⟨⟨[119,104,101,114,101]⟩⟩))),(4,1,(.const (.string ⟨⟨[108,101,116]⟩⟩))),(5,1,(.const (.string ⟨⟨[105,110]⟩⟩))),(6,1,(.const (.string ⟨⟨[99,97,115,101]⟩⟩))),(7,1,(.const (.string ⟨⟨[111,102]⟩⟩))),(8,1,(.const (.string ⟨⟨[105,102]⟩⟩))),(9,1,(.const (.string ⟨⟨[116,104,101,110]⟩⟩))),(10,1,(.const (.string ⟨⟨[101,108,115,101]⟩⟩))),(11,1,(.const (.string ⟨⟨[100,101,114,105,118,105,110,103]⟩⟩)))])⟩,za 0 1] (.ret))
theorem t109:T 109=some ⟨c109.toC,[.tmp 0]⟩:=by kernel_rfl
noncomputable def s110_0:List MStep:=[zb 14 2 3,zc 15 14,za 16 0]
noncomputable def g110_0:List MStage:=[⟨zf 17 76 16,[⟨15,none,(.ld1 (.tmp 14))⟩],[⟨(some 18),none,(.bsl 30 [(.int .i64 0),(.string ⟨⟨[]⟩⟩),(.slice none 0 0)] 1 [(0,3,(.tmp 17))])⟩]⟩,⟨zl 19 30 3 48 15 18,[],[zb 20 2 3]⟩,⟨zq 20 19,[],[]⟩]
theorem d110_0:okD s110_0 g110_0:=⟨by kernel_rfl,by kernel_rfl,by kernel_rfl,by kernel_rfl,trivial⟩
noncomputable def l110_1:MCode:=.seq (g0 [za 12 0,zf 13 75 12] (g1 13 0)) (.block 1 (.dregion s110_0 g110_0))
noncomputable def c110:MCode:=g0 [⟨(some 2),none,(.alloc 30 [(.int .i64 0),(.string ⟨⟨[]⟩⟩),(.slice none 0 0)])⟩] (.seq (g0 [za 4 0,zo 5 74 4 2,yf 6 5] (g2 6 (g0 [za 7 0,zf 8 76 7,ze 3 2 8] (.ret)) (.skip))) (g0 [za 9 0,zo 10 73 9 2,⟨(some 11),none,(.p (.build [(.int .i64 0),(.string ⟨⟨[]⟩⟩),(.slice none 0 0)] [(0,1,(.const (.int .i64 2))),(1,1,(.tmp 10))]))⟩,⟨(some 3),none,(.alloc 30 [(.int .i64 0),(.string ⟨⟨[]⟩⟩),(.slice none 0 0)])⟩,yc 3 3 11] (.seq (.block 0 (.loop l110_1)) (g0 [zd 21 3 3,ze 3 2 21] (.ret)))))
theorem t110:T 110=some ⟨c110.toC,[.ldN 3 2]⟩:=by kernel_rfl
noncomputable def l111_0:MCode:=.seq (g0 [za 12 1,za 13 0,zh 14 13,zb 15 0 14,zc 16 15,zr 17 16,zt 18 12 17] (g1 18 0)) (.seq (.block 1 (.seq (g0 [za 21 0,za 22 1,⟨(some 23),none,(.call 70 [(.tmp 21),(.tmp 22),(.const (.string ⟨⟨[40]⟩⟩))])⟩] (g2 23 (.region [za 24 5,zg 25 24 1,za 5 25]) (.skip))) (g0 [za 26 0,za 27 1,⟨(some 28),none,(.call 70 [(.tmp 26),(.tmp 27),(.const (.string ⟨⟨[41]⟩⟩))])⟩] (g2 28 (g0 [za 29 5,ye 30 29 1,za 5 30] (g0 [za 31 5,zs 32 31 0] (g2 32 (g0 [za 33 1,zg 34 33 1,za 4 34] (.ret)) (.skip)))) (.skip))))) (.region [za 19 1,zg 20 19 1,za 1 20]))
noncomputable def c111:MCode:=g0 [zk 4 0] (.seq (g0 [za 6 0,za 7 1,⟨(some 8),none,(.call 70 [(.tmp 6),(.tmp 7),(.const (.string ⟨⟨[40]⟩⟩))])⟩,yf 9 8] (g2 9 (g0 [za 10 1,zg 11 10 1,za 4 11] (.ret)) (.skip))) (g0 [zk 5 0] (.seq (.block 0 (.loop l111_0)) (g0 [za 35 1,za 4 35] (.ret)))))
theorem t111:T 111=some ⟨c111.toC,[.tmp 4]⟩:=by kernel_rfl
noncomputable def l112_0:MCode:=.seq (g0 [za 8 4,za 9 0,zr 10 9,zt 11 8 10] (g1 11 0)) (.seq (.block 1 (.region [za 14 3,za 15 0,za 16 4,zm 17 1 15 16,zc 18 17,⟨(some 19),none,(.bsl 9 [(.string ⟨⟨[]⟩⟩)] 1 [(0,1,(.tmp 18))])⟩,zl 20 9 1 16 14 19,za 3 20])) (.region [za 12 4,zg 13 12 1,za 4 13]))
noncomputable def c112:MCode:=g0 [zv 2 0 0] (g0 [za 5 0,zr 6 5,⟨(some 7),none,(.oth (.a (.mksl 9 16 [(.string ⟨⟨[]⟩⟩)] (.const (.int .i64 0)) (.tmp 6))))⟩,za 3 7] (.seq (g0 [zk 4 0] (.block 0 (.loop l112_0))) (g0 [za 21 3,za 2 21] (.ret))))
theorem t112:T 112=some ⟨c112.toC,[.tmp 2]⟩:=by kernel_rfl
noncomputable def l113_0:MCode:=.seq (g0 [za 6 0,⟨(some 7),none,(.bsl 9 [(.string ⟨⟨[]⟩⟩)] 1 [(0,1,(.const (.string ⟨⟨[42]⟩⟩)))])⟩,zj 8 104 6 7] (g1 8 0)) (.block 1 (.region [za 9 0,zd 10 7 3,⟨(some 11),none,(.call 105 [(.tmp 9),(.tmp 10),(.const (.int .i64 2))])⟩,yc 7 3 11]))
noncomputable def c113:MCode:=g0 [⟨(some 2),none,(.alloc 171 [(.int .i64 0),(.int .i64 0),(.string ⟨⟨[]⟩⟩),(.int .i64 0),(.slice none 0 0),(.slice none 0 0),(.slice none 0 0)])⟩] (g0 [za 4 0,zf 5 114 4,⟨(some 3),none,(.alloc 171 [(.int .i64 0),(.int .i64 0),(.string ⟨⟨[]⟩⟩),(.int .i64 0),(.slice none 0 0),(.slice none 0 0),(.slice none 0 0)])⟩,yc 7 3 5] (.seq (.block 0 (.loop l113_0)) (g0 [zd 12 7 3,ze 7 2 12] (.ret))))
theorem t113:T 113=some ⟨c113.toC,[.ldN 7 2]⟩:=by kernel_rfl
noncomputable def l114_0:MCode:=.seq (g0 [za 7 0,zf 8 119 7] (g1 8 0)) (.block 1 (g0 [za 9 0,zf 10 118 9,⟨some 4,none,(.ini false 171 [(.int .i64 0),(.int .i64 0),(.string ⟨⟨[]⟩⟩),(.int .i64 0),(.slice none 0 0),(.slice none 0 0),(.slice none 0 0)] (.tmp 10))⟩] (.region [zd 11 7 3,zd 12 7 4,zb 13 1 3,zc 14 13,yd 15 115 11 12 14,yc 7 3 15])))
noncomputable def c114:MCode:=g0 [⟨(some 2),none,(.alloc 171 [(.int .i64 0),(.int .i64 0),(.string ⟨⟨[]⟩⟩),(.int .i64 0),(.slice none 0 0),(.slice none 0 0),(.slice none 0 0)])⟩] (g0 [za 5 0,zf 6 118 5,⟨(some 3),none,(.alloc 171 [(.int .i64 0),(.int .i64 0),(.string ⟨⟨[]⟩⟩),(.int .i64 0),(.slice none 0 0),(.slice none 0 0),(.slice none 0 0)])⟩,yc 7 3 6] (.seq (.block 0 (.loop l114_0)) (g0 [zd 16 7 3,ze 7 2 16] (.ret))))
theorem t114:T 114=some ⟨c114.toC,[.ldN 7 2]⟩:=by kernel_rfl
noncomputable def c115:MCode:=g0 [zy 3 171 0,zy 4 171 1,⟨(some 6),none,(.alloc 171 [(.int .i64 0),(.int .i64 0),(.string ⟨⟨[]⟩⟩),(.int .i64 0),(.slice none 0 0),(.slice none 0 0),(.slice none 0 0)])⟩] (g0 [za 7 2,zd 8 7 3,zd 9 7 4,⟨(some 10),none,(.bsl 171 [(.int .i64 0),(.int .i64 0),(.string ⟨⟨[]⟩⟩),(.int .i64 0),(.slice none 0 0),(.slice none 0 0),(.slice none 0 0)] 2 [(0,7,(.tmp 8)),(7,7,(.tmp 9))])⟩,⟨(some 11),none,(.p (.build [(.int .i64 0),(.int .i64 0),(.string ⟨⟨[]⟩⟩),(.int .i64 0),(.slice none 0 0),(.slice none 0 0),(.slice none 0 0)] [(0,1,(.const (.int .i64 5))),(1,1,(.tmp 7)),(4,1,(.tmp 10))]))⟩,ze 7 6 11] (.ret))
theorem t115:T 115=some ⟨c115.toC,[.ldN 7 6]⟩:=by kernel_rfl
noncomputable def l117_0:MCode:=.seq (g0 [za 6 5,za 7 0,zr 8 7,zt 9 6 8] (g1 9 0)) (.seq (.block 1 (g0 [za 12 0,za 13 5,zm 14 1 12 13,zc 15 14,za 16 1,yr 17 15 16] (g2 17 (g0 [za 18 5,za 4 18] (.ret)) (.skip)))) (.region [za 10 5,zg 11 10 1,za 5 11]))
noncomputable def c117:MCode:=g0 [zk 4 0] (.seq (g0 [zk 5 0] (.block 0 (.loop l117_0))) (g0 [xc 4 1] (.ret)))
theorem t117:T 117=some ⟨c117.toC,[.tmp 4]⟩:=by kernel_rfl
noncomputable def s118_0:List MStep:=[za 11 0,zh 12 11,zb 13 0 12,zc 14 13,za 15 0,zh 16 15,zb 17 1 16,zc 18 17,zm 19 4 14 18,zd 20 4 19,⟨(some 3),none,(.alloc 145 [(.int .i64 0),(.int .i64 0),(.string ⟨⟨[]⟩⟩),(.int .i64 0)])⟩]
noncomputable def g118_0:List MStage:=[⟨ze 4 3 20,[],[]⟩]
theorem d118_0:okD s118_0 g118_0:=⟨by kernel_rfl,by kernel_rfl,trivial⟩
noncomputable def s118_1:List MStep:=[za 26 0,zh 27 26,zb 28 1 27,zc 29 28,zg 30 29 1,za 31 0,zh 32 31,zb 33 0 32,zc 34 33,zr 35 34,zt 36 30 35,za 37 36,zp 38 37 0,yh 39 37 38,zz 40 37 0 39,zu 41 37 40,zp 42 37 0,yh 43 37 42,zz 44 37 1 43,zu 45 37 44,xe 46 37 45 1,yl 47 37 4 41 46,zz 48 37 0 47,zu 49 37 48,⟨(some 50),(some (37,true)),(.p (.bin .eql (.tmp 49) (.const (.int .i64 5))))⟩,zn 51 37 50]
noncomputable def g118_1:List MStage:=[]
theorem d118_1:okD s118_1 g118_1:=⟨by kernel_rfl,trivial⟩
noncomputable def s118_2:List MStep:=[za 53 0,zh 54 53,zb 55 0 54,zc 56 55,za 57 0,zh 58 57,zb 59 1 58,zc 60 59,zg 61 60 1,zm 62 4 56 61,zb 63 1 62,zc 64 63,zb 65 1 4]
noncomputable def g118_2:List MStage:=[⟨zq 65 64,[],[]⟩]
theorem d118_2:okD s118_2 g118_2:=⟨by kernel_rfl,by kernel_rfl,trivial⟩
noncomputable def s118_3:List MStep:=[za 66 0,zh 67 66,zb 68 0 67,zc 69 68,za 70 0,zh 71 70,zb 72 1 71,zc 73 72,zg 74 73 1,zm 75 4 69 74,zb 76 2 75,zc 77 76,zb 78 2 4]
noncomputable def g118_3:List MStage:=[⟨zq 78 77,[],[]⟩]
theorem d118_3:okD s118_3 g118_3:=⟨by kernel_rfl,by kernel_rfl,trivial⟩
noncomputable def c118:MCode:=g0 [⟨(some 2),none,(.alloc 171 [(.int .i64 0),(.int .i64 0),(.string ⟨⟨[]⟩⟩),(.int .i64 0),(.slice none 0 0),(.slice none 0 0),(.slice none 0 0)])⟩] (.seq (g0 [za 5 0,zf 6 119 5,yf 7 6] (g2 7 (g0 [za 8 0,zf 9 63 8] (g0 [⟨(some 10),none,(.p (.build [(.int .i64 0),(.int .i64 0),(.string ⟨⟨[]⟩⟩),(.int .i64 0),(.slice none 0 0),(.slice none 0 0),(.slice none 0 0)] []))⟩,ze 7 2 10] (.ret))) (.skip))) (.seq (.dregion s118_0 g118_0) (g0 [zb 21 1 3,zc 22 21,⟨(some 23),none,(.p (.build [(.int .i64 0),(.int .i64 0),(.string ⟨⟨[]⟩⟩),(.int .i64 0),(.slice none 0 0),(.slice none 0 0),(.slice none 0 0)] [(1,1,(.tmp 22))]))⟩,⟨(some 4),none,(.alloc 171 [(.int .i64 0),(.int .i64 0),(.string ⟨⟨[]⟩⟩),(.int .i64 0),(.slice none 0 0),(.slice none 0 0),(.slice none 0 0)])⟩,yc 7 4 23] (.seq (g0 [zb 24 0 3,zc 25 24] (.block 0 (g0 [zs 100 25 1,za 99 100] (g2 99 (g0 [zb 101 0 4,xl 101 1] (.region [zb 102 2 3,zc 103 102,zb 104 2 4,zq 104 103])) (g0 [zs 106 25 2,za 105 106] (g2 105 (g0 [zb 107 0 4,xl 107 2] (.region [zb 108 2 3,zc 109 108,zb 110 2 4,zq 110 109])) (g0 [zs 112 25 3,za 111 112] (g2 111 (g0 [zb 113 0 4,xl 113 3] (.region [zb 114 3 3,zc 115 114,zb 116 3 4,zq 116 115])) (g0 [zs 118 25 4,za 117 118] (g2 117 (g0 [zb 119 0 4,xl 119 4] (.region [zb 120 3 3,zc 121 120,zb 122 3 4,zq 122 121])) (.seq (.seq (.dregion s118_1 g118_1) (g2 51 (g0 [zb 52 0 4,xl 52 1] (.seq (.dregion s118_2 g118_2) (.seq (.dregion s118_3 g118_3) (g0 [za 79 0,za 80 0,zh 81 80,zb 82 1 81,zc 83 82,zg 84 83 2,zh 85 79,zb 86 1 85,zq 86 84] (g0 [za 87 0,⟨(some 88),none,(.call 72 [(.tmp 87),(.const (.string ⟨⟨[41]⟩⟩))])⟩] (g0 [zd 89 7 4,ze 7 2 89] (.ret))))))) (.skip))) (g0 [za 90 0,zf 91 95 90] (g0 [za 92 0,zf 93 82 92,yc 7 4 93] (g0 [za 94 0,⟨(some 95),none,(.call 72 [(.tmp 94),(.const (.string ⟨⟨[41]⟩⟩))])⟩] (g0 [za 96 0,zf 97 97 96] (g0 [zd 98 7 4,ze 7 2 98] (.ret))))))))))))))))) (g0 [za 123 0,za 124 0,zh 125 124,zb 126 1 125,zc 127 126,zg 128 127 1,zh 129 123,zb 130 1 129,zq 130 128] (g0 [zd 131 7 4,ze 7 2 131] (.ret)))))))
theorem t118:T 118=some ⟨c118.toC,[.ldN 7 2]⟩:=by kernel_rfl
noncomputable def c119:MCode:=g0 [zx 2] (g0 [za 3 0,zo 4 74 3 1,za 5 4,ya 6 5 0,xi 7 5 74 6 2,zw 8 5 7,za 9 8,ya 10 9 0,xi 11 9 74 10 3,zw 12 9 11,za 13 12,ya 14 13 0,xi 15 13 74 14 4,zw 16 13 15,za 17 16,ya 18 17 0,⟨(some 19),(some (17,false)),(.call 56 [(.tmp 18),(.const (.string ⟨⟨[40]⟩⟩))])⟩,zw 20 17 19,za 2 20] (.ret))
theorem t119:T 119=some ⟨c119.toC,[.tmp 2]⟩:=by kernel_rfl
noncomputable def c43x:MCode:=g0 [zv 2 0 0] (.seq (g0 [za 3 0,⟨(some 4),none,(.oth (.p (.isnil false (.slice none 0 0) (.tmp 3))))⟩] (g2 4 (g0 [zv 2 0 0] (.ret)) (.skip))) (g0 [⟨(some 5),none,(.oth (.a (.bsl 9 [(.string ⟨⟨[]⟩⟩)] 0 [])))⟩,za 6 0,zl 7 9 1 16 5 6,za 2 7] (.ret)))
theorem t43x:T 43=some ⟨c43x.toC,[.tmp 2]⟩:=t43
end Go.Proofs.YtinbjdkibmkgbaaGreatDoor.code
namespace Go.Proofs.YtinbjdkibmkgbaaGreatDoor.p
open Go.Proofs Go Go.Cn code
set_option linter.unusedSimpArgs false
set_option linter.unusedVariables false
theorem _root_.Go.Cn.AH.set_eq {h:AH}{b:Nat}{o:AO}(hb:h.objs b=some o):h.set b o=h:=by
 obtain⟨objs,toks⟩:=h
 unfold AH.set
 congr 1
 funext n
 simp only[upd]
 split
 ·rename_i e;rw[e];exact hb.symm
 ·rfl
abbrev Nm:=List UInt8
structure Tk where
 kind:Int
 pos:Int
 text:Nm
 n:Int
structure St where
 i:Nat
 code:Int
 pl:Bool
 bp:Int
 deep:Int
def tkR (t:Tk):List AV:=[.int .i64 t.kind,.int .i64 t.pos,.str t.text,.int .i64 t.n]
def tkC (ts:List Tk):List (List AV):=ts.map tkR
theorem tkC_len (ts:List Tk):(tkC ts).length=ts.length:=by rw[tkC,List.length_map]
theorem tkC_get {ts:List Tk}{i:Nat}(h:i<ts.length):(tkC ts)[i]?=some [.int .i64 (ts[i]).kind,.int .i64 (ts[i]).pos,.str (ts[i]).text,.int .i64 (ts[i]).n]:=by rw[tkC,List.getElem?_map,List.getElem?_eq_getElem h];rfl
def parO (ts:List Tk)(e:Int)(s:St):AO:=.cells [.lst 145 (tkC ts) .no,.int .i64 (s.i:Nat),.int .i64 e,.int .i64 s.code,.bool s.pl,.int .i64 s.bp,.int .i64 s.deep] 125
theorem get2 {α:Type}{l:List α}{i:Nat}(h:i<l.length):l[i]?=some l[i]:=List.getElem?_eq_getElem h
section
variable (ts:List Tk)(e:Int)
def fineS (s:St):Bool:=decide (s.code=0)
def posS (s:St):Int:=match ts[s.i]? with|some t=>t.pos|none=>e
def amissS (c p:Int)(s:St):St:=if fineS s then {s with code:=c,pl:=true,bp:=p} else s
def wrongS (s:St):St:=amissS 102 (posS ts e s) s
def kindS (k:Int)(s:St):Bool:=fineS s&&match ts[s.i]? with|some t=>decide (t.kind=k)|none=>false
def atS (i:Nat)(str:Nm)(s:St):Bool:=fineS s&&match ts[i]? with|some t=>decide (t.kind=6)&&decide (t.text=str)|none=>false
def isS (str:Nm)(s:St):Bool:=atS ts s.i str s
def nextS (s:St):St:={s with i:=s.i+1}
def takeS (str:Nm)(s:St):St:=if isS ts str s then nextS s else wrongS ts e s
def textS (s:St):Nm:=match ts[s.i]? with|some t=>t.text|none=>[]
def wordS (k:Int)(s:St):Nm×St:=if kindS ts k s then (textS ts s,nextS s) else ([],wrongS ts e s)
def openS (s:St):St:=if 200<=s.deep then amissS 111 (posS ts e s) s else {s with deep:=IntKind.i64.wrap (s.deep+1),i:=s.i+1}
def shutS (s:St):St:={s with deep:=IntKind.i64.wrap (s.deep-1)}
def PC (f:Nat)(args:List AV)(v:AV)(s s':St):Prop:=
 ∀(K:Nat->Prop)(h:AH)(b:Nat),¬K b->ACall T K (.func f) (.ptr b 0::args) (h.set b (parO ts e s)) fun w h'=>w=v/\h'=h.set b (parO ts e s')
end
section
variable {ts:List Tk}{e:Int}
theorem PC.use {f:Nat}{args:List AV}{v:AV}{s s':St}(hp:PC ts e f args v s s'){K:Nat->Prop}{h:AH}{b:Nat}{Q:AV->AH->Prop}(hb:h.objs b=some (parO ts e s))(hk:¬K b)(hq:Q v (h.set b (parO ts e s'))):ACall T K (.func f) (.ptr b 0::args) h Q:=by
 have:=hp K h b hk
 rw[AH.set_eq hb] at this
 exact this.mono fun w h' ⟨h1,h2⟩=>by rw[h1,h2];exact hq
theorem PC.intro {f:Nat}{c:MCode}{res:List CRes}{args:List AV}{v:AV}{s s':St}(hf:T f=some ⟨c.toC,res⟩)
  (hw:∀(K:Nat->Prop)(h:AH)(b:Nat),¬K b->(∀o,KOk K (h.set b o))->wpC T K c (initA (.ptr b 0::args)) (h.set b (parO ts e s)) (RetQ K res fun w h'=>w=v/\h'=h.set b (parO ts e s'))):PC ts e f args v s s':=by
 intro K h b hk
 refine ACall.retQ hf fun hK=>hw K h b hk fun o=>?_
 have:=hK.set b o
 rwa [AH.set_set] at this
theorem PC.fin {K:Nat->Prop}{h m:AH}{b:Nat}{o:AO}{v v':AV}(hw:Wk v' v)(hl:(h.set b o).le m)(hK:KOk K (h.set b o)):∃a h'',Frz v' m a h''/\KOk K h''/\a=v/\h''=h.set b o:=
 ⟨v,_,.weak hw (.drop hl (.refl _ _)),hK,rfl,rfl⟩
theorem kindS_lt {k:Int}{s:St}(h:kindS ts k s=true):s.i<ts.length:=by
 unfold kindS at h
 cases e:ts[s.i]? with
 |none=>rw[e] at h;simp at h
 |some t=>exact (List.getElem?_eq_some_iff.1 e).1
theorem atS_lt {i:Nat}{str:Nm}{s:St}(h:atS ts i str s=true):i<ts.length:=by
 unfold atS at h
 cases e:ts[i]? with
 |none=>rw[e] at h;simp at h
 |some t=>exact (List.getElem?_eq_some_iff.1 e).1
theorem isS_lt {str:Nm}{s:St}(h:isS ts str s=true):s.i<ts.length:=atS_lt h
theorem amissS_i (c p:Int)(s:St):(amissS c p s).i=s.i:=by unfold amissS;split<;>rfl
theorem wrongS_i (s:St):(wrongS ts e s).i=s.i:=amissS_i _ _ s
theorem takeS_i {s:St}(h:s.i<=ts.length)(str:Nm):(takeS ts e str s).i<=ts.length:=by
 unfold takeS
 split
 ·rename_i g;exact isS_lt g
 ·rw[wrongS_i];exact h
theorem wordS_i {s:St}(h:s.i<=ts.length)(k:Int):(wordS ts e k s).2.i<=ts.length:=by
 unfold wordS
 split
 ·rename_i g;exact kindS_lt g
 ·show (wrongS ts e s).i<=_;rw[wrongS_i];exact h
theorem openS_i {s:St}(h:s.i<ts.length):(openS ts e s).i<=ts.length:=by
 unfold openS
 split
 ·rw[amissS_i];omega
 ·exact h
theorem fine_ok (s:St):PC ts e 55 [] (.bool (fineS s)) s s:=by
 refine PC.intro t55 fun K h b hk hK=>?_
 simp only[u_C c55.eq_1,rn,pevA,seval,parO]
 exact⟨_,_,.refl _ _,hK _,rfl,rfl⟩
theorem pos_ok (s:St):PC ts e 71 [] (.int .i64 (posS ts e s)) s s:=by
 refine PC.intro t71 fun K h b hk hK=>?_
 unfold posS
 by_cases hlt:s.i<ts.length
 ·have c1:decide ((s.i:Int)<(ts.length:Int))=true:=decide_eq_true (by omega)
  rw[List.getElem?_eq_getElem hlt]
  simp only[u_C c71.eq_1,e_dregion d71_0,u_L s71_0.eq_1,u_T g71_0.eq_1,e_dregion d71_1,u_L s71_1.eq_1,u_T g71_1.eq_1,rn,pevA,seval,parO,tkC_len,c1,tkC_get hlt]
  exact⟨_,_,.refl _ _,hK _,rfl,rfl⟩
 ·have c1:decide ((s.i:Int)<(ts.length:Int))=false:=decide_eq_false (by omega)
  rw[List.getElem?_eq_none (by omega)]
  simp only[u_C c71.eq_1,e_dregion d71_0,u_L s71_0.eq_1,u_T g71_0.eq_1,e_dregion d71_1,u_L s71_1.eq_1,u_T g71_1.eq_1,rn,pevA,seval,parO,tkC_len,c1]
  exact⟨_,_,.refl _ _,hK _,rfl,rfl⟩
theorem placed_ok (c p:Int)(hc:c≠0):Pure T 67 [.int .i64 c,.int .i64 p] (.agg [.int .i64 c,.bool true,.int .i64 p]):=by
 intro K h
 refine ACall.ret t67 fun hK=>?_
 simp only[u_C c67.eq_1,rn,pevA,seval]
 intro b hb hk
 simp only[rn,pevA,seval,hc,hk]
 exact⟨.refl _,by rw[s_del hb];exact AH.le_refl _⟩
theorem amiss_ok (c p:Int)(hc:c≠0)(s:St):PC ts e 78 [.int .i64 c,.int .i64 p] (.tuple []) s (amissS c p s):=by
 refine PC.intro t78 fun K h b hk hK=>?_
 simp only[u_C c78.eq_1,rn,pevA,seval]
 refine (fine_ok s).use (AH.set_same _ _ _) hk ?_
 unfold amissS
 cases hf:fineS s with
 |false=>
  simp only[rn,pevA,seval,hf]
  exact⟨_,_,.refl _ _,hK _,rfl,rfl⟩
 |true=>
  simp only[rn,pevA,seval,hf]
  refine (placed_ok c p hc).use ?_
  simp only[rn,pevA,seval,hk,parO]
  exact⟨_,_,.refl _ _,hK _,rfl,rfl⟩
theorem wrong_ok (s:St):PC ts e 63 [] (.tuple []) s (wrongS ts e s):=by
 refine PC.intro t63 fun K h b hk hK=>?_
 simp only[u_C c63.eq_1,rn,pevA,seval]
 refine (pos_ok s).use (AH.set_same _ _ _) hk ?_
 simp only[rn,pevA,seval]
 refine (amiss_ok 102 _ (by decide) s).use (AH.set_same _ _ _) hk ?_
 simp only[rn,pevA,seval]
 exact⟨_,_,.refl _ _,hK _,rfl,rfl⟩
theorem kind_ok (k:Int)(s:St):PC ts e 74 [.int .i64 k] (.bool (kindS ts k s)) s s:=by
 refine PC.intro t74 fun K h b hk hK=>?_
 simp only[u_C c74.eq_1,e_dregion d74_0,u_L s74_0.eq_1,u_T g74_0.eq_1,rn,pevA,seval]
 refine (fine_ok s).use (AH.set_same _ _ _) hk ?_
 unfold kindS
 cases hf:fineS s with
 |false=>
  simp only[e_dregion d74_0,u_L s74_0.eq_1,u_T g74_0.eq_1,rn,pevA,seval,hf,Bool.false_and]
  exact⟨_,_,.refl _ _,hK _,rfl,rfl⟩
 |true=>
  by_cases hlt:s.i<ts.length
  ·have c1:decide ((s.i:Int)<(ts.length:Int))=true:=decide_eq_true (by omega)
   rw[get2 hlt]
   simp only[e_dregion d74_0,u_L s74_0.eq_1,u_T g74_0.eq_1,rn,pevA,seval,hf,parO,tkC_len,c1,tkC_get hlt]
   exact⟨_,_,.refl _ _,hK _,rfl,rfl⟩
  ·have c1:decide ((s.i:Int)<(ts.length:Int))=false:=decide_eq_false (by omega)
   rw[List.getElem?_eq_none (by omega)]
   simp only[e_dregion d74_0,u_L s74_0.eq_1,u_T g74_0.eq_1,rn,pevA,seval,hf,parO,tkC_len,c1]
   exact⟨_,_,.refl _ _,hK _,rfl,rfl⟩
theorem at_ok (i:Nat)(str:Nm)(s:St):PC ts e 70 [.int .i64 (i:Nat),.str str] (.bool (atS ts i str s)) s s:=by
 refine PC.intro t70 fun K h b hk hK=>?_
 simp only[u_C c70.eq_1,rn,pevA,seval]
 refine (fine_ok s).use (AH.set_same _ _ _) hk ?_
 unfold atS
 cases hf:fineS s with
 |false=>
  simp only[rn,pevA,seval,hf,Bool.false_and]
  exact⟨_,_,.refl _ _,hK _,rfl,rfl⟩
 |true=>
  by_cases hlt:i<ts.length
  ·have c1:decide ((i:Int)<(ts.length:Int))=true:=decide_eq_true (by omega)
   rw[get2 hlt]
   by_cases h6:(ts[i]).kind=6
   ·have c2:decide ((ts[i]).kind=6)=true:=decide_eq_true h6
    simp only[rn,pevA,seval,hf,parO,tkC_len,c1,tkC_get hlt,c2]
    exact⟨_,_,.refl _ _,hK _,rfl,rfl⟩
   ·have c2:decide ((ts[i]).kind=6)=false:=decide_eq_false h6
    simp only[rn,pevA,seval,hf,parO,tkC_len,c1,tkC_get hlt,c2,Bool.false_and]
    exact⟨_,_,.refl _ _,hK _,rfl,rfl⟩
  ·have c1:decide ((i:Int)<(ts.length:Int))=false:=decide_eq_false (by omega)
   rw[List.getElem?_eq_none (by omega)]
   simp only[rn,pevA,seval,hf,parO,tkC_len,c1]
   exact⟨_,_,.refl _ _,hK _,rfl,rfl⟩
theorem is_ok (str:Nm)(s:St):PC ts e 56 [.str str] (.bool (isS ts str s)) s s:=by
 refine PC.intro t56 fun K h b hk hK=>?_
 simp only[u_C c56.eq_1,rn,pevA,seval,parO]
 refine (at_ok s.i str s).use (AH.set_same _ _ _) hk ?_
 simp only[rn,pevA,seval]
 exact⟨_,_,.refl _ _,hK _,rfl,rfl⟩
variable (hts:ts.length<=1000000)
theorem w1 {i:Nat}(h:i<1000000):IntKind.i64.wrap ((i:Int)+1)=((i+1:Nat):Int):=by rw[wrap64 ⟨by omega,by omega⟩];rfl
theorem w2 {i:Nat}(h:i<1000000):IntKind.i64.wrap ((i:Int)+2)=((i+2:Nat):Int):=by rw[wrap64 ⟨by omega,by omega⟩];rfl
theorem w3 {i:Nat}(h:i<1000000):IntKind.i64.wrap (((i+1:Nat):Int)-1)=(i:Int):=by rw[wrap64 ⟨by omega,by omega⟩];omega
include hts in
theorem take_ok (str:Nm)(s:St):PC ts e 72 [.str str] (.tuple []) s (takeS ts e str s):=by
 refine PC.intro t72 fun K h b hk hK=>?_
 simp only[u_C c72.eq_1,rn,pevA,seval]
 refine (is_ok str s).use (AH.set_same _ _ _) hk ?_
 unfold takeS
 cases hi:isS ts str s with
 |false=>
  simp only[rn,pevA,seval,hi]
  refine (wrong_ok s).use (AH.set_same _ _ _) hk ?_
  simp only[rn,pevA,seval]
  exact⟨_,_,.refl _ _,hK _,rfl,rfl⟩
 |true=>
  have hlt:=isS_lt hi
  simp only[rn,pevA,seval,hi,parO,w1 (Nat.lt_of_lt_of_le hlt hts),hk]
  exact⟨_,_,.refl _ _,hK _,rfl,rfl⟩
include hts in
theorem word_ok (k:Int)(s:St):PC ts e 73 [.int .i64 k] (.str (wordS ts e k s).1) s (wordS ts e k s).2:=by
 refine PC.intro t73 fun K h b hk hK=>?_
 simp only[u_C c73.eq_1,rn,pevA,seval]
 refine (kind_ok k s).use (AH.set_same _ _ _) hk ?_
 unfold wordS
 cases hi:kindS ts k s with
 |false=>
  simp only[rn,pevA,seval,hi]
  refine (wrong_ok s).use (AH.set_same _ _ _) hk ?_
  simp only[rn,pevA,seval]
  exact⟨_,_,.refl _ _,hK _,rfl,rfl⟩
 |true=>
  have hlt:=kindS_lt hi
  unfold textS
  rw[get2 hlt]
  simp only[e_dregion d73_0,u_L s73_0.eq_1,u_T g73_0.eq_1,rn,pevA,seval,hi,parO,w1 (Nat.lt_of_lt_of_le hlt hts),w3 (Nat.lt_of_lt_of_le hlt hts),hk,tkC_get hlt]
  exact⟨_,_,.refl _ _,hK _,rfl,rfl⟩
include hts in
theorem open_ok (s:St)(hlt:s.i<ts.length):PC ts e 95 [] (.tuple []) s (openS ts e s):=by
 refine PC.intro t95 fun K h b hk hK=>?_
 unfold openS
 by_cases hd:200<=s.deep
 ·have c1:decide (200<=s.deep)=true:=decide_eq_true hd
  rw[if_pos hd]
  simp only[u_C c95.eq_1,rn,pevA,seval,parO,c1]
  refine (pos_ok s).use (AH.set_same _ _ _) hk ?_
  simp only[rn,pevA,seval]
  refine (amiss_ok 111 _ (by decide) s).use (AH.set_same _ _ _) hk ?_
  simp only[rn,pevA,seval]
  exact⟨_,_,.refl _ _,hK _,rfl,rfl⟩
 ·have c1:decide (200<=s.deep)=false:=decide_eq_false hd
  rw[if_neg hd]
  simp only[u_C c95.eq_1,rn,pevA,seval,parO,c1,w1 (Nat.lt_of_lt_of_le hlt hts),hk]
  exact⟨_,_,.refl _ _,hK _,rfl,rfl⟩
theorem shut_ok (s:St):PC ts e 97 [] (.tuple []) s (shutS s):=by
 refine PC.intro t97 fun K h b hk hK=>?_
 simp only[u_C c97.eq_1,rn,pevA,seval,parO,hk]
 exact⟨_,_,.refl _ _,hK _,rfl,rfl⟩
end
end Go.Proofs.YtinbjdkibmkgbaaGreatDoor.p
namespace Go.Proofs.YtinbjdkibmkgbaaGreatDoor.p
open Go.Proofs Go Go.Cn code
set_option linter.unusedSimpArgs false
set_option linter.unusedVariables false
section
variable {h:AH}{b c d f:Nat}{x y z u w:AO}
theorem set_in1 (n:c≠b):((h.set b x).set c y).set b z=(h.set b z).set c y:=by
 rw[set_comm n,AH.set_set]
theorem set_in2 (n:c≠b)(m:d≠b):(((h.set b x).set c y).set d w).set b z=((h.set b z).set c y).set d w:=by
 rw[set_comm m,set_in1 n]
theorem set_in3 (n:c≠b)(m:d≠b)(k:f≠b):((((h.set b x).set c y).set d w).set f u).set b z=(((h.set b z).set c y).set d w).set f u:=by
 rw[set_comm k,set_in2 n m]
set_option linter.defProp false in
noncomputable def kN:=And.intro (@set_in1) (And.intro (@AH.set_ne) (And.intro (@set_in2) (@set_in3)))
set_option linter.defProp false in
noncomputable def kG:=And.intro (@tk_objs) (And.intro (@AH.set_same) (And.intro (@ne_eq.{1}) (@not_false_eq_true)))
theorem new3 {n:Nat}:((h.set b x).set c y).objs n=none↔n≠c/\n≠b/\h.objs n=none:=by rw[AH.set_none,AH.set_none]
theorem new4 {n:Nat}:(((h.set b x).set c y).set d w).objs n=none↔n≠d/\n≠c/\n≠b/\h.objs n=none:=by rw[AH.set_none,AH.set_none,AH.set_none]
end
theorem _root_.Go.Cn.Wk.nil (E E':TypeId)(t:Tag):Wk (.lst E' [] t) (.lst E [] .no):=.lstE fun h=>absurd rfl h
inductive Ty where
 |mk (k:Int)(n:Nm)(l:List Ty)
mutual
def tyR:Ty->List AV
 |.mk k n l=>[.int .i64 k,.str n,.lst 30 (tysR l) .no]
def tysR:List Ty->List (List AV)
 |[]=>[]
 |t::l=>tyR t::tysR l
end
theorem tysR_eq (l:List Ty):tysR l=l.map tyR:=by
 induction l with
 |nil=>rfl
 |cons a l ih=>simp only[tysR,List.map_cons,ih]
theorem tysR_len (l:List Ty):(tysR l).length=l.length:=by rw[tysR_eq,List.length_map]
theorem tysR_app (l:List Ty)(t:Ty):tysR l++[tyR t]=tysR (l++[t]):=by simp only[tysR_eq,List.map_append,List.map_cons,List.map_nil]
theorem tysR_ne {l:List Ty}(h:tysR l≠[]):l≠[]:=by rintro rfl;exact h rfl
section
variable (ts:List Tk)(e:Int)
def argumentS (s:St):Bool:=kindS ts 1 s || kindS ts 2 s || isS ts [40] s
mutual
def argS:Nat->St->Option (Ty×St)
 |0,_=>none
 |n+1,s=>if kindS ts 1 s then some (.mk 1 (wordS ts e 1 s).1 [],(wordS ts e 1 s).2)
  else if kindS ts 2 s then some (.mk 2 (wordS ts e 2 s).1 [],(wordS ts e 2 s).2)
  else if isS ts [40] s then match typS n (openS ts e s) with
   |some (t,s')=>some (t,shutS (takeS ts e [41] s'))
   |none=>none
  else some (.mk 0 [] [],wrongS ts e s)
def argsS:Nat->List Ty->St->Option (List Ty×St)
 |0,_,_=>none
 |n+1,acc,s=>if argumentS ts s then match argS n s with
   |some (t,s')=>argsS n (acc++[t]) s'
   |none=>none
  else some (acc,s)
def appliedS:Nat->St->Option (Ty×St)
 |0,_=>none
 |n+1,s=>if kindS ts 2 s then match argsS n [] (wordS ts e 2 s).2 with
   |some (l,s')=>some (.mk 2 (wordS ts e 2 s).1 l,s')
   |none=>none
  else argS n s
def typS:Nat->St->Option (Ty×St)
 |0,_=>none
 |n+1,s=>match appliedS n s with
  |some (t,s1)=>if isS ts [45,62] s1 then match typS n (nextS s1) with
    |some (u,s2)=>some (.mk 3 [] [t,u],s2)
    |none=>none
   else some (t,s1)
  |none=>none
end
def most:Nat:=10000000
def TyOK (n:Nat):Prop:=∀s t s',s.i<=ts.length->typS ts e n s=some (t,s')->PC ts e 96 [] (.agg (tyR t)) s s'/\s'.i<=ts.length
def ArgOK (n:Nat):Prop:=∀s t s',s.i<=ts.length->argS ts e n s=some (t,s')->PC ts e 76 [] (.agg (tyR t)) s s'/\s'.i<=ts.length
def AppliedOK (n:Nat):Prop:=∀s t s',s.i<=ts.length->appliedS ts e n s=some (t,s')->PC ts e 110 [] (.agg (tyR t)) s s'/\s'.i<=ts.length
end
section
variable {ts:List Tk}{e:Int}
theorem argument_ok (s:St):PC ts e 75 [] (.bool (argumentS ts s)) s s:=by
 refine PC.intro t75 fun K h b hk hK=>?_
 unfold argumentS
 simp only[u_C c75.eq_1,rn,pevA,seval]
 refine (kind_ok 1 s).use (AH.set_same _ _ _) hk ?_
 cases h1:kindS ts 1 s with
 |true=>
  simp only[rn,pevA,seval,Bool.true_or]
  exact⟨_,_,.refl _ _,hK _,rfl,rfl⟩
 |false=>
  simp only[rn,pevA,seval]
  refine (kind_ok 2 s).use (AH.set_same _ _ _) hk ?_
  cases h2:kindS ts 2 s with
  |true=>
   simp only[rn,pevA,seval,Bool.true_or,Bool.false_or]
   exact⟨_,_,.refl _ _,hK _,rfl,rfl⟩
  |false=>
   simp only[rn,pevA,seval,Bool.false_or]
   refine (is_ok [40] s).use (AH.set_same _ _ _) hk ?_
   simp only[rn,pevA,seval]
   exact⟨_,_,.refl _ _,hK _,rfl,rfl⟩
variable (hts:ts.length<=1000000)
include hts in
theorem arg_step {n:Nat}(hT:TyOK ts e n):ArgOK ts e (n+1):=by
 intro s t s' hs hr
 rw[argS] at hr
 refine⟨PC.intro t76 fun K h b hk hK=>?_,?_⟩
 ·simp only[u_C c76.eq_1,rn,pevA,seval]
  intro b2 hb2 hk2
  obtain⟨n2,hb2⟩:=AH.set_none.1 hb2
  simp only[rn,pevA,seval]
  refine (kind_ok 1 s).use (by simp only[kG,kN,n2,n2.symm]<;>rfl) hk ?_
  simp only[rn,pevA,seval,kN,n2,n2.symm]
  cases c1:kindS ts 1 s with
  |true=>
   rw[c1,if_pos rfl] at hr
   cases hr
   simp only[rn,pevA,seval,kN,n2,n2.symm]
   refine (word_ok hts 1 s).use (by simp only[kG,kN,n2,n2.symm]<;>rfl) hk ?_
   simp only[rn,pevA,seval,kN,n2,n2.symm,hk2]
   exact PC.fin (.aggL ⟨.refl _,.refl _,.nil _ _ _,trivial⟩) (by repeat (first|exact AH.le_refl _|refine le_set ?_ (AH.set_none.2 ⟨n2,hb2⟩)|refine le_del ?_ (AH.set_none.2 ⟨n2,hb2⟩))) (hK _)
  |false=>
   rw[c1,if_neg (by decide)] at hr
   simp only[rn,pevA,seval,kN,n2,n2.symm]
   refine (kind_ok 2 s).use (by simp only[kG,kN,n2,n2.symm]<;>rfl) hk ?_
   simp only[rn,pevA,seval,kN,n2,n2.symm]
   cases c2:kindS ts 2 s with
   |true=>
    rw[c2,if_pos rfl] at hr
    cases hr
    simp only[rn,pevA,seval,kN,n2,n2.symm]
    refine (word_ok hts 2 s).use (by simp only[kG,kN,n2,n2.symm]<;>rfl) hk ?_
    simp only[rn,pevA,seval,kN,n2,n2.symm,hk2]
    exact PC.fin (.aggL ⟨.refl _,.refl _,.nil _ _ _,trivial⟩) (by repeat (first|exact AH.le_refl _|refine le_set ?_ (AH.set_none.2 ⟨n2,hb2⟩)|refine le_del ?_ (AH.set_none.2 ⟨n2,hb2⟩))) (hK _)
   |false=>
    rw[c2,if_neg (by decide)] at hr
    simp only[rn,pevA,seval,kN,n2,n2.symm]
    refine (is_ok [40] s).use (by simp only[kG,kN,n2,n2.symm]<;>rfl) hk ?_
    simp only[rn,pevA,seval,kN,n2,n2.symm]
    cases c3:isS ts [40] s with
    |true=>
     rw[c3,if_pos rfl] at hr
     have hlt:=isS_lt c3
     cases hq:typS ts e n (openS ts e s) with
     |none=>rw[hq] at hr;cases hr
     |some p=>
      obtain⟨⟨tk,tn,tl⟩,s1⟩:=p
      rw[hq] at hr
      cases hr
      obtain⟨ht,hi1⟩:=hT _ _ _ (openS_i hlt) hq
      simp only[rn,pevA,seval,kN,n2,n2.symm]
      refine (open_ok hts s hlt).use (by simp only[kG,kN,n2,n2.symm]<;>rfl) hk ?_
      simp only[rn,pevA,seval,kN,n2,n2.symm]
      refine ht.use (by simp only[kG,kN,n2,n2.symm]<;>rfl) hk ?_
      simp only[rn,pevA,seval,kN,n2,n2.symm,tyR]
      refine (take_ok hts [41] s1).use (by simp only[kG,kN,n2,n2.symm]<;>rfl) hk ?_
      simp only[rn,pevA,seval,kN,n2,n2.symm]
      refine (shut_ok _).use (by simp only[kG,kN,n2,n2.symm]<;>rfl) hk ?_
      simp only[rn,pevA,seval,kN,n2,n2.symm,hk2]
      exact PC.fin (.refl _) (by repeat (first|exact AH.le_refl _|refine le_set ?_ (AH.set_none.2 ⟨n2,hb2⟩)|refine le_del ?_ (AH.set_none.2 ⟨n2,hb2⟩))) (hK _)
    |false=>
     rw[c3,if_neg (by decide)] at hr
     cases hr
     simp only[rn,pevA,seval,kN,n2,n2.symm]
     refine (wrong_ok s).use (by simp only[kG,kN,n2,n2.symm]<;>rfl) hk ?_
     simp only[rn,pevA,seval,kN,n2,n2.symm,hk2]
     exact PC.fin (.aggL ⟨.refl _,.refl _,.nil _ _ _,trivial⟩) (by repeat (first|exact AH.le_refl _|refine le_set ?_ (AH.set_none.2 ⟨n2,hb2⟩)|refine le_del ?_ (AH.set_none.2 ⟨n2,hb2⟩))) (hK _)
 ·split at hr
  ·cases hr;exact wordS_i hs 1
  ·split at hr
   ·cases hr;exact wordS_i hs 2
   ·split at hr
    ·rename_i c3
     cases hq:typS ts e n (openS ts e s) with
     |none=>rw[hq] at hr;cases hr
     |some p=>
      obtain⟨t1,s1⟩:=p
      rw[hq] at hr
      cases hr
      exact takeS_i (hT _ _ _ (openS_i (isS_lt c3)) hq).2 _
    ·cases hr;rw[wrongS_i];exact hs
include hts in
theorem typ_step {n:Nat}(hT:TyOK ts e n)(hA:AppliedOK ts e n):TyOK ts e (n+1):=by
 intro s t s' hs hr
 rw[typS] at hr
 cases ha:appliedS ts e n s with
 |none=>rw[ha] at hr;cases hr
 |some p=>
  obtain⟨⟨tk,tn,tl⟩,s1⟩:=p
  rw[ha] at hr
  obtain⟨hp,hi1⟩:=hA _ _ _ hs ha
  simp only at hr
  refine⟨PC.intro t96 fun K h b hk hK=>?_,?_⟩
  ·simp only[u_C c96.eq_1,rn,pevA,seval]
   intro b2 hb2 hk2
   obtain⟨n2,hb2⟩:=AH.set_none.1 hb2
   simp only[rn,pevA,seval]
   refine hp.use (by simp only[kG,kN,n2,n2.symm]<;>rfl) hk ?_
   simp only[rn,pevA,seval,kN,n2,n2.symm,tyR]
   refine (is_ok [45,62] s1).use (by simp only[kG,kN,n2,n2.symm]<;>rfl) hk ?_
   simp only[rn,pevA,seval,kN,n2,n2.symm]
   cases c1:isS ts [45,62] s1 with
   |true=>
    rw[c1,if_pos rfl] at hr
    have hlt:=isS_lt c1
    cases hq:typS ts e n (nextS s1) with
    |none=>rw[hq] at hr;cases hr
    |some p=>
     obtain⟨⟨uk,un,ul⟩,s2⟩:=p
     rw[hq] at hr
     cases hr
     obtain⟨ht,hi2⟩:=hT _ _ _ (show (nextS s1).i<=_ from hlt) hq
     simp only[rn,pevA,seval,kN,n2,n2.symm,parO,w1 (Nat.lt_of_lt_of_le hlt hts),hk,e_dregion d96_0,u_L s96_0.eq_1,u_T g96_0.eq_1]
     refine ht.use (s:=nextS s1) (by simp only[kG,kN,n2,n2.symm]<;>rfl) hk ?_
     simp only[rn,pevA,seval,kN,n2,n2.symm,tyR,hk2,e_dregion d96_0,u_L s96_0.eq_1,u_T g96_0.eq_1]
     exact PC.fin (.refl _) (by repeat (first|exact AH.le_refl _|refine le_set ?_ (AH.set_none.2 ⟨n2,hb2⟩)|refine le_del ?_ (AH.set_none.2 ⟨n2,hb2⟩))) (hK _)
   |false=>
    rw[c1,if_neg (by decide)] at hr
    cases hr
    simp only[rn,pevA,seval,kN,n2,n2.symm,hk2]
    exact PC.fin (.refl _) (by repeat (first|exact AH.le_refl _|refine le_set ?_ (AH.set_none.2 ⟨n2,hb2⟩)|refine le_del ?_ (AH.set_none.2 ⟨n2,hb2⟩))) (hK _)
  ·split at hr
   ·rename_i c1
    cases hq:typS ts e n (nextS s1) with
    |none=>rw[hq] at hr;cases hr
    |some p=>
     obtain⟨u,s2⟩:=p
     rw[hq] at hr
     cases hr
     exact (hT _ _ _ (show (nextS s1).i<=_ from isS_lt c1) hq).2
   ·cases hr;exact hi1
end
end Go.Proofs.YtinbjdkibmkgbaaGreatDoor.p
namespace Go.Proofs.YtinbjdkibmkgbaaGreatDoor.p
open Go.Proofs Go Go.Cn code
set_option linter.unusedSimpArgs false
set_option linter.unusedVariables false
section
variable {ts:List Tk}{e:Int}(hts:ts.length<=1000000)
theorem args_i:∀(n:Nat),(∀m,m<n->ArgOK ts e m)->∀(acc:List Ty)(s:St)(l:List Ty)(s':St),s.i<=ts.length->argsS ts e n acc s=some (l,s')->s'.i<=ts.length
 |0,_,acc,s,l,s',_,hr=>by rw[argsS] at hr;cases hr
 |n+1,hA,acc,s,l,s',hs,hr=>by
  rw[argsS] at hr
  split at hr
  ·cases hq:argS ts e n s with
   |none=>rw[hq] at hr;cases hr
   |some p=>
    obtain⟨t,s2⟩:=p
    rw[hq] at hr
    exact args_i n (fun m hm=>hA m (by omega)) _ _ _ _ (hA n (by omega) _ _ _ hs hq).2 hr
  ·cases hr;exact hs
include hts in
theorem applied_step {n:Nat}(hn:n<=most)(hA:∀m,m<=n->ArgOK ts e m):AppliedOK ts e (n+1):=by
 intro s t s' hs hr
 rw[appliedS] at hr
 refine⟨PC.intro t110 fun K h b hk hK=>?_,?_⟩
 ·simp only[u_C c110.eq_1,rn,pevA,seval]
  intro b2 hb2 hk2
  obtain⟨n2,hb2⟩:=AH.set_none.1 hb2
  simp only[rn,pevA,seval]
  refine (kind_ok 2 s).use (by simp only[kG,kN,n2,n2.symm]<;>rfl) hk ?_
  cases c1:kindS ts 2 s with
  |false=>
   rw[c1,if_neg (by decide)] at hr
   obtain⟨tk,tn,tl⟩:=t
   simp only[rn,pevA,seval,kN,n2,n2.symm]
   refine (hA n (Nat.le_refl _) _ _ _ hs hr).1.use (by simp only[kG,kN,n2,n2.symm]<;>rfl) hk ?_
   simp only[rn,pevA,seval,kN,n2,n2.symm,tyR,hk2]
   exact PC.fin (.refl _) (by repeat (first|exact AH.le_refl _|refine le_set ?_ (AH.set_none.2 ⟨n2,hb2⟩)|refine le_del ?_ (AH.set_none.2 ⟨n2,hb2⟩))) (hK _)
  |true=>
   rw[c1,if_pos rfl] at hr
   cases hq:argsS ts e n [] (wordS ts e 2 s).2 with
   |none=>rw[hq] at hr;cases hr
   |some p=>
    obtain⟨l,s1⟩:=p
    rw[hq] at hr
    cases hr
    simp only[rn,pevA,seval,kN,n2,n2.symm]
    refine (word_ok hts 2 s).use (by simp only[kG,kN,n2,n2.symm]<;>rfl) hk ?_
    simp only[rn,pevA,seval,kN,n2,n2.symm]
    intro b3 hb3 hk3
    obtain⟨n32,n3,hb3⟩:=new3.1 hb3
    simp only[rn,pevA,seval,kN,n2,n2.symm,n3,n3.symm,n32,n32.symm,hk3]
    have hi0:=wordS_i (e:=e) hs 2
    generalize (wordS ts e 2 s).2=sW at hq hi0 ⊢
    generalize (wordS ts e 2 s).1=nm
    refine aloop (α:=Nat×List Ty×St) (fun x fr h1=>fr 0=.ptr b 0/\fr 2=.ptr b2 0/\fr 3=.ptr b3 0/\x.2.2.i<=ts.length/\x.1<=n/\x.2.1.length+x.1<=most/\argsS ts e x.1 x.2.1 x.2.2=some (l,s')/\
     ∃E tag t',(x.2.1≠[]->E=30)/\Toks h.toks t' [(tag,30,3,0)]/\h1=(((h.set b (parO ts e x.2.2)).set b2 (.cells [.int .i64 0,.str [],.lst 0 [] .nil] 30)).set b3 (.cells [.int .i64 2,.str nm,.lst E (tysR x.2.1) tag] 30)).tk t') (fun x=>x.1) (n,[],sW)
     ⟨rfl,rfl,rfl,hi0,Nat.le_refl _,by simpa using hn,hq,_,.nil,h.toks,fun h=>absurd rfl h,.one _ _ _,rfl⟩ ?_
    clear hq hi0
    rintro⟨m,acc,s2⟩ fr h1 ⟨f0,f2,f3,hi,hm,hB,hq,E,tag,t',hE,hT,rfl⟩
    simp only at hi hm hB hq hE
    cases m with
    |zero=>rw[argsS] at hq;cases hq
    |succ m=>
     rw[argsS] at hq
     simp only[u_C l110_1.eq_1,rn,pevA,seval,f0,f2,f3,kN,n2,n2.symm,n3,n3.symm,n32,n32.symm]
     refine (argument_ok s2).use (by simp only[kG,kN,n2,n2.symm,n3,n3.symm,n32,n32.symm]<;>rfl) hk ?_
     cases c2:argumentS ts s2 with
     |true=>
      rw[c2,if_pos rfl] at hq
      cases hp:argS ts e m s2 with
      |none=>rw[hp] at hq;cases hq
      |some p=>
       obtain⟨⟨k,nm',tl⟩,s3⟩:=p
       rw[hp] at hq
       obtain⟨hc,hi3⟩:=hA m (by omega) _ _ _ hi hp
       simp only[e_dregion d110_0,u_L s110_0.eq_1,u_T g110_0.eq_1,rn,pevA,seval,f0,f2,f3,kN,n2,n2.symm,n3,n3.symm,n32,n32.symm]
       refine hc.use (by simp only[kG,kN,n2,n2.symm,n3,n3.symm,n32,n32.symm]<;>rfl) (fun x=>x.elim hk (by simp[n3.symm])) ?_
       simp only[e_dregion d110_0,u_L s110_0.eq_1,u_T g110_0.eq_1,rn,pevA,seval,f0,f2,f3,kN,n2,n2.symm,n3,n3.symm,n32,n32.symm,tyR]
       refine WO.append (i:=0) hT rfl rfl rfl trivial (by decide) (by simp) (by rfl) (.inr rfl) (fun _=>?_) ?_ fun tag2 t2 hT2=>?_
       ·simp[capOk,tysR_len];unfold most at hB;omega
       ·simp[big_eq,tysR_len];unfold most at hB;omega
       have ha:tysR acc++[[AV.int .i64 k,.str nm',.lst 30 (tysR tl) .no]]=tysR (acc++[.mk k nm' tl]):=tysR_app acc (.mk k nm' tl)
       rw[ha]
       simp only[e_dregion d110_0,u_L s110_0.eq_1,u_T g110_0.eq_1,rn,pevA,seval,f0,f2,f3,kN,n2,n2.symm,n3,n3.symm,n32,n32.symm,hk3]
       exact⟨(m,acc++[.mk k nm' tl],s3),by show m<m+1;omega,f0,f2,f3,hi3,by show m<=n;omega,by show (acc++[_]).length+m<=most;simp;omega,hq,_,tag2,t2,fun _=>rfl,hT2,rfl⟩
     |false=>
      rw[c2,if_neg (by decide)] at hq
      cases hq
      simp only[rn,pevA,seval,f0,f2,f3,kN,n2,n2.symm,n3,n3.symm,n32,n32.symm,hk2]
      exact PC.fin (.aggL ⟨.refl _,.refl _,.lstE fun h=>hE (tysR_ne h),trivial⟩) (by repeat (first|exact AH.le_refl _|refine le_tk ?_ hT.le|refine le_set ?_ (AH.set_none.2 ⟨n2,hb2⟩)|refine le_del ?_ (AH.set_none.2 ⟨n2,hb2⟩)|refine le_set ?_ (AH.set_none.2 ⟨n3,hb3⟩)|refine le_del ?_ (AH.set_none.2 ⟨n3,hb3⟩))) (hK _)
 ·split at hr
  ·rename_i c1
   cases hq:argsS ts e n [] (wordS ts e 2 s).2 with
   |none=>rw[hq] at hr;cases hr
   |some p=>
    obtain⟨l,s1⟩:=p
    rw[hq] at hr
    cases hr
    exact args_i n (fun m hm=>hA m (by omega)) _ _ _ _ (wordS_i hs 2) hq
  ·exact (hA n (Nat.le_refl _) _ _ _ hs hr).2
include hts in
theorem types_ok:∀(n:Nat),n<=most->∀m,m<=n->ArgOK ts e m/\AppliedOK ts e m/\TyOK ts e m
 |0,_,m,hm=>by
  obtain rfl:m=0:=by omega
  exact⟨fun s t s' _ hr=>(by rw[argS] at hr;cases hr),fun s t s' _ hr=>(by rw[appliedS] at hr;cases hr),fun s t s' _ hr=>(by rw[typS] at hr;cases hr)⟩
 |n+1,hn,m,hm=>by
  have ih:=types_ok n (by omega)
  by_cases h:m<=n
  ·exact ih m h
  ·obtain rfl:m=n+1:=by omega
   have hi:=ih n (Nat.le_refl _)
   exact⟨arg_step hts hi.2.2,applied_step hts (by omega) fun m hm=>(ih m hm).1,typ_step hts hi.2.2 hi.2.1⟩
include hts in
theorem typ_ok {n:Nat}(hn:n<=most):TyOK ts e n:=(types_ok hts n hn n (Nat.le_refl _)).2.2
include hts in
theorem arg_ok {n:Nat}(hn:n<=most):ArgOK ts e n:=(types_ok hts n hn n (Nat.le_refl _)).1
end
end Go.Proofs.YtinbjdkibmkgbaaGreatDoor.p
namespace Go.Proofs.YtinbjdkibmkgbaaGreatDoor.p
open Go.Proofs Go Go.Cn code
set_option linter.unusedSimpArgs false
set_option linter.unusedVariables false
def strC (l:List Nm):List (List AV):=l.map fun s=>[.str s]
theorem strC_len (l:List Nm):(strC l).length=l.length:=by rw[strC,List.length_map]
theorem strC_get (l:List Nm)(i:Nat):(strC l)[i]?=(l[i]?).map fun s=>[AV.str s]:=by rw[strC,List.getElem?_map]
theorem strC_app (l:List Nm)(s:Nm):strC l++[[.str s]]=strC (l++[s]):=by simp[strC]
theorem strC_ne {l:List Nm}(h:strC l≠[]):l≠[]:=by rintro rfl;exact h rfl
theorem mem_take {α:Type}{l:List α}{i:Nat}{a:α}(h:l[i]?=some a){v:α}(hv:v∉l.take i)(hne:v≠a):v∉l.take (i+1):=by
 rw[List.take_add_one,h]
 intro hm
 rcases List.mem_append.1 hm with hm|hm
 ·exact hv hm
 ·simp at hm;exact hne hm
theorem _root_.Go.Cn.Toks.made {t:Nat->Option Tok}{b:Nat}(E sz n:Nat)(hb:t b=none):Toks t (upd t b (some ⟨b,0,0,n*sz,sz,E⟩)) [(.own b b 0 0 (n*sz) sz,E,sz,n)] where
 le:=fun c k hc=>by
  simp only[upd]
  rw[if_neg (by rintro rfl;rw[hb] at hc;cases hc)]
  exact hc
 own:=fun i tag E' sz' k hi=>by
  match i,hi with
  |0,hi=>
   cases hi
   exact⟨rfl,by simp[upd],by simp⟩
  |i+1,hi=>simp at hi
 out:=fun i tag E' sz' k c hi hc=>by
  match i,hi with
  |0,hi=>
   cases hi
   cases hc
   exact hb
  |i+1,hi=>simp at hi
 sep:=fun i j a b' c hij hi hj=>by
  match i,j,hi,hj with
  |0,0,_,_=>exact absurd rfl hij
  |0,j+1,_,hj=>simp at hj
  |i+1,_,hi,_=>simp at hi
section
theorem place_ok (E:TypeId)(l:List Nm)(t:Tag)(v:Nm)(K:Nat->Prop)(h:AH):ACall T K (.func 117) [.lst E (strC l) t,.str v] h fun r h'=>(∃n:Int,r=.int .i64 n/\(0<=n↔v∈l))/\h'=h:=by
 refine ACall.retQ t117 fun hK=>?_
 simp only[u_C c117.eq_1,rn,pevA,seval,strC_len]
 refine W.bound (t:=0) rfl fun hB=>?_
 rw[strC_len] at hB
 refine aloop (α:=Nat) (fun k fr h1=>fr 0=.lst E (strC l) t/\fr 1=.str v/\fr 5=.int .i64 k/\k<=l.length/\v∉l.take k/\h1=h) (fun k=>l.length-k) 0 ?_ ?_
 ·exact⟨rfl,rfl,rfl,Nat.zero_le _,by simp,rfl⟩
 ·rintro k fr h1 ⟨f0,f1,f5,hk,hv,rfl⟩
  by_cases hlt:k<l.length
  ·have c1:decide ((k:Int)<(l.length:Int))=true:=decide_eq_true (by omega)
   obtain⟨a,ha⟩ : ∃a,l[k]?=some a:=⟨l[k],by simp[hlt]⟩
   have hget:(strC l)[k]?=some [.str a]:=by rw[strC_get,ha];rfl
   by_cases e:a=v
   ·subst e
    simp only[u_C l117_0.eq_1,rn,pevA,seval,f0,f1,f5,c1,hget,strC_len]
    exact⟨_,h1,.refl _ _,hK,⟨k,rfl,fun _=>List.mem_of_getElem? ha,fun _=>by omega⟩,rfl⟩
   ·simp only[u_C l117_0.eq_1,rn,pevA,seval,f0,f1,f5,c1,hget,e,wrapS hlt hB,strC_len]
    refine⟨k+1,by show l.length-(k+1)<l.length-k;omega,f0,f1,rfl,hlt,mem_take ha hv fun x=>e x.symm,rfl⟩
  ·have hke:k=l.length:=by omega
   subst hke
   have c1:decide ((l.length:Int)<(l.length:Int))=false:=by simp
   simp only[u_C l117_0.eq_1,rn,pevA,seval,f0,f1,f5,c1,strC_len]
   rw[List.take_length] at hv
   exact⟨_,h1,.refl _ _,hK,⟨-1,rfl,fun h=>absurd h (by decide),fun h=>absurd h hv⟩,rfl⟩
theorem has_ok (E:TypeId)(l:List Nm)(t:Tag)(v:Nm):Pure T 108 [.lst E (strC l) t,.str v] (.bool (decide (v∈l))):=by
 intro K h
 refine ACall.ret t108 fun hK=>?_
 simp only[u_C c108.eq_1,rn,pevA,seval]
 refine (place_ok E l t v K h).mono ?_
 rintro _ _ ⟨⟨n,rfl,hn⟩,rfl⟩
 simp only[rn,pevA,seval,hn]
 exact⟨.refl _,AH.le_refl _⟩
theorem texts_ok (E:TypeId)(l:List Nm)(t:Tag)(hl:l.length<=most)(K:Nat->Prop)(h:AH):ACall T K (.func 112) [.lst E (strC l) t] h fun v h'=>∃tag t',v=.lst 9 (strC l) tag/\Toks h.toks t' [(tag,9,1,0)]/\h'=h.tk t':=by
 refine ACall.retQ t112 fun hK=>?_
 unfold most at hl
 simp only[u_C c112.eq_1,rn,pevA,seval,strC_len]
 refine WO.mksl0 (j:=.i64) (k:=.i64) (n:=l.length) rfl rfl (by omega) (by omega) fun b hb1 hb2=>?_
 simp only[rn,pevA,seval]
 refine aloop (α:=Nat) (fun k fr h1=>fr 0=.lst E (strC l) t/\fr 4=.int .i64 k/\k<=l.length/\∃tag t',fr 3=.lst 9 (strC (l.take k)) tag/\Toks h.toks t' [(tag,9,1,l.length-k)]/\h1=h.tk t') (fun k=>l.length-k) 0 ?_ ?_
 ·exact⟨rfl,rfl,Nat.zero_le _,_,_,rfl,.made 9 1 l.length hb1,rfl⟩
 ·rintro k fr h1 ⟨f0,f4,hk,tag,t',f3,hT,rfl⟩
  by_cases hlt:k<l.length
  ·have c1:decide ((k:Int)<(l.length:Int))=true:=decide_eq_true (by omega)
   obtain⟨a,ha⟩ : ∃a,l[k]?=some a:=⟨l[k],by simp[hlt]⟩
   have hget:(strC l)[k]?=some [.str a]:=by rw[strC_get,ha];rfl
   simp only[u_C l112_0.eq_1,rn,pevA,seval,f0,f4,f3,c1,hget,strC_len]
   refine WO.append (i:=0) hT rfl rfl rfl trivial (by decide) (by simp) rfl (.inl (by simp;omega)) (fun h=>by simp at h;omega) ?_ fun tag2 t2 hT2=>?_
   ·simp[big_eq,strC_len];omega
   have w:IntKind.i64.wrap ((k:Int)+1)=((k+1:Nat):Int):=by rw[wrap64 ⟨by omega,by omega⟩];rfl
   rw[strC_app]
   simp only[rn,pevA,seval,f0,f4,w]
   refine⟨k+1,by show l.length-(k+1)<l.length-k;omega,f0,rfl,hlt,tag2,t2,?_,?_,rfl⟩
   ·show AV.lst _ _ _=_;rw[List.take_add_one,ha];rfl
   ·have:l.length-k-1=l.length-(k+1):=by omega
    rw[<-this];exact hT2
  ·have hke:k=l.length:=by omega
   subst hke
   have c1:decide ((l.length:Int)<(l.length:Int))=false:=by simp
   simp only[u_C l112_0.eq_1,rn,pevA,seval,f0,f4,f3,c1,strC_len]
   rw[List.take_length]
   rw[Nat.sub_self] at hT
   exact⟨_,_,.refl _ _,fun b hb=>hK b hb,tag,t',rfl,hT,rfl⟩
mutual
def cntT:Ty->Nat
 |.mk k n l=>1+cntTs l
def cntTs:List Ty->Nat
 |[]=>0
 |t::l=>cntT t+cntTs l
end
def addV (out:List Nm)(k:Int)(n:Nm):List Nm:=if k=1/\n∉out then out++[n] else out
mutual
def varsS (out:List Nm):Ty->List Nm
 |.mk k n l=>varsL (addV out k n) l
def varsL (out:List Nm):List Ty->List Nm
 |[]=>out
 |t::l=>varsL (varsS out t) l
end
theorem addV_len (out:List Nm)(k:Int)(n:Nm):(addV out k n).length<=out.length+1:=by
 unfold addV;split<;>simp
mutual
theorem varsS_len:∀(out:List Nm)(t:Ty),(varsS out t).length<=out.length+cntT t
 |out,.mk k n l=>by
  have:=varsL_len (addV out k n) l
  have:=addV_len out k n
  rw[varsS,cntT];omega
theorem varsL_len:∀(out:List Nm)(l:List Ty),(varsL out l).length<=out.length+cntTs l
 |out,[]=>by rw[varsL,cntTs];omega
 |out,t::l=>by
  have:=varsL_len (varsS out t) l
  have:=varsS_len out t
  rw[varsL,cntTs];omega
end
theorem varsL_app (l m:List Ty):∀out,varsL out (l++m)=varsL (varsL out l) m:=by
 induction l with
 |nil=>intro out;rw[varsL];rfl
 |cons a l ih=>intro out;rw[List.cons_append,varsL,varsL,ih]
theorem cntTs_app (l m:List Ty):cntTs (l++m)=cntTs l+cntTs m:=by
 induction l with
 |nil=>rw[cntTs];simp
 |cons a l ih=>rw[List.cons_append,cntTs,cntTs,ih];omega
theorem Ty.ind {P:Ty->Prop}(h:∀k n l,(∀a∈l,P a)->P (.mk k n l)):∀t,P t
 |.mk k n l=>h k n l fun a ha=>Ty.ind h a
 termination_by t=>SizeOf.sizeOf t
 decreasing_by have:=List.sizeOf_lt_of_mem ha;simp;omega
end
end Go.Proofs.YtinbjdkibmkgbaaGreatDoor.p
namespace Go.Proofs.YtinbjdkibmkgbaaGreatDoor.p
open Go.Proofs Go Go.Cn code
set_option linter.unusedSimpArgs false
set_option linter.unusedVariables false
theorem cnt_pos (t:Ty):1<=cntT t:=by cases t;rw[cntT];omega
theorem cntTs_len:∀l:List Ty,l.length<=cntTs l
 |[]=>Nat.zero_le _
 |t::l=>by have:=cntTs_len l;have:=cnt_pos t;rw[cntTs,List.length_cons];omega
theorem tysR_get (l:List Ty)(i:Nat):(tysR l)[i]?=(l[i]?).map tyR:=by rw[tysR_eq,List.getElem?_map]
theorem at_split {α:Type}{l:List α}{i:Nat}{a:α}(h:l[i]?=some a):l=l.take i++a::l.drop (i+1):=by
 obtain⟨hi,rfl⟩:=List.getElem?_eq_some_iff.1 h
 rw[<-List.drop_eq_getElem_cons hi,List.take_append_drop]
theorem take_succ {α:Type}{l:List α}{i:Nat}{a:α}(h:l[i]?=some a):l.take (i+1)=l.take i++[a]:=by rw[List.take_add_one,h];rfl
theorem cntTs_at {l:List Ty}{i:Nat}{a:Ty}(h:l[i]?=some a):cntTs (l.take i)+cntT a<=cntTs l:=by
 have:=at_split h
 have e:cntTs l=cntTs (l.take i++a::l.drop (i+1)):=congrArg cntTs this
 rw[cntTs_app,cntTs] at e;omega
theorem vars_loop (k:Int)(n:Nm)(l:List Ty)(ih:∀a∈l,∀(out:List Nm)(E:TypeId)(tag:Tag),(out≠[]->E=9)->out.length+cntT a<=most->Pure T 100 [.lst E (strC out) tag,.agg (tyR a)] (.lst 9 (strC (varsS out a)) .no))
  (out:List Nm)(E:TypeId)(tag:Tag)(hE:out≠[]->E=9)(hB:out.length+cntTs l<=most)(K:Nat->Prop)(h:AH)(fr:AFr)(R:CExit->AQ)(f0:fr 0=.lst E (strC out) tag)(f3:fr 3=.rptr (tyR (.mk k n l)))(f5:fr 5=.int .i64 0)
  (hR:∀(fr:AFr)(E:TypeId)(tag:Tag),(varsL out l≠[]->E=9)->fr 0=.lst E (strC (varsL out l)) tag->R (.exit 0) fr h):W T K (.loop l100_1.toC) fr h R:=by
 have hl:=cntTs_len l
 unfold most at hB
 refine aloop (α:=Nat) (fun i fr h1=>fr 3=.rptr (tyR (.mk k n l))/\fr 5=.int .i64 i/\i<=l.length/\h1=h/\∃E tag,(varsL out (l.take i)≠[]->E=9)/\fr 0=.lst E (strC (varsL out (l.take i))) tag) (fun i=>l.length-i) 0 ⟨f3,f5,Nat.zero_le _,rfl,E,tag,by rw[List.take_zero,varsL];exact hE,by rw[List.take_zero,varsL];exact f0⟩ ?_
 clear f0 f3 f5
 rintro i fr h1 ⟨f3,f5,hi,rfl,E',tag',hE',f0⟩
 rw[tyR] at f3
 by_cases hlt:i<l.length
 ·have c1:decide ((i:Int)<(l.length:Int))=true:=decide_eq_true (by omega)
  obtain⟨a,ha⟩ : ∃a,l[i]?=some a:=⟨l[i],by simp[hlt]⟩
  have hc:=cntTs_at ha
  have hv:=varsL_len out (l.take i)
  have hp:=ih a (List.mem_of_getElem? ha) (varsL out (l.take i)) E' tag' hE' (by unfold most;omega)
  have hs:varsL out (l.take (i+1))=varsS (varsL out (l.take i)) a:=by rw[take_succ ha,varsL_app,varsL,varsL]
  have w:IntKind.i64.wrap ((i:Int)+1)=((i+1:Nat):Int):=by rw[wrap64 ⟨by omega,by omega⟩];rfl
  obtain⟨ak,an,al⟩:=a
  have hget:(tysR l)[i]?=some [.int .i64 ak,.str an,.lst 30 (tysR al) .no]:=by rw[tysR_get,ha];rfl
  simp only[u_C l100_1.eq_1,rn,pevA,seval,f0,f3,f5,tysR_len,c1,hget]
  refine hp.use ?_
  simp only[rn,pevA,seval,f5,w]
  exact⟨i+1,by show l.length-(i+1)<l.length-i;omega,f3,rfl,hlt,rfl,_,.no,fun _=>rfl,by rw[hs];rfl⟩
 ·have hie:i=l.length:=by omega
  subst hie
  have c1:decide ((l.length:Int)<(l.length:Int))=false:=by simp
  simp only[u_C l100_1.eq_1,rn,pevA,seval,f0,f3,f5,tysR_len,c1]
  rw[List.take_length] at hE' f0
  exact hR _ _ _ hE' f0
theorem vars_ok:∀(t:Ty)(out:List Nm)(E:TypeId)(tag:Tag),(out≠[]->E=9)->out.length+cntT t<=most->Pure T 100 [.lst E (strC out) tag,.agg (tyR t)] (.lst 9 (strC (varsS out t)) .no):=by
 refine Ty.ind fun k n l ih out E tag hE hB K h=>?_
 rw[cntT] at hB
 refine ACall.ret t100 fun hK=>?_
 simp only[u_C c100.eq_1,rn,pevA,seval,tyR]
 by_cases hk:k=1
 ·subst hk
  simp only[rn,pevA,seval]
  refine (has_ok E out tag n).use ?_
  by_cases hm:n∈out
  ·have e1:addV out 1 n=out:=by unfold addV;rw[if_neg fun h=>h.2 hm]
   simp only[rn,pevA,seval,hm]
   refine vars_loop 1 n l ih out E tag hE (by omega) K h _ _ rfl rfl rfl fun fr E' tag' hE' f0=>?_
   simp only[rn,pevA,seval,f0]
   rw[varsS,e1]
   exact⟨.lstE fun h=>hE' (strC_ne h),AH.le_refl _⟩
  ·have e1:addV out 1 n=out++[n]:=by unfold addV;rw[if_pos ⟨rfl,hm⟩]
   simp only[rn,pevA,seval,hm,e_dregion d100_0,u_L s100_0.eq_1,u_T g100_0.eq_1]
   refine (texts_ok E out tag (by omega) K h).mono ?_
   rintro _ _ ⟨tag2,t2,rfl,hT,rfl⟩
   simp only[rn,pevA,seval,e_dregion d100_0,u_L s100_0.eq_1,u_T g100_0.eq_1]
   refine WO.append (i:=0) hT rfl rfl rfl trivial (by decide) (by simp) rfl (.inr rfl) (fun _=>?_) ?_ fun tag3 t3 hT3=>?_
   ·simp[capOk,strC_len];unfold most at hB;omega
   ·simp[big_eq,strC_len];unfold most at hB;omega
   rw[strC_app]
   simp only[rn,pevA,seval,e_dregion d100_0,u_L s100_0.eq_1,u_T g100_0.eq_1]
   refine vars_loop 1 n l ih (out++[n]) 9 tag3 (fun _=>rfl) (by simp;omega) K _ _ _ rfl rfl rfl fun fr E' tag' hE' f0=>?_
   simp only[rn,pevA,seval,f0]
   rw[varsS,e1]
   exact⟨.lstE fun h=>hE' (strC_ne h),le_tk (AH.le_refl _) hT3.le⟩
 ·have e1:addV out k n=out:=by unfold addV;rw[if_neg fun h=>hk h.1]
  have c1:decide (k=1)=false:=decide_eq_false hk
  simp only[rn,pevA,seval,c1]
  refine vars_loop k n l ih out E tag hE (by omega) K h _ _ rfl rfl rfl fun fr E' tag' hE' f0=>?_
  simp only[rn,pevA,seval,f0]
  rw[varsS,e1]
  exact⟨.lstE fun h=>hE' (strC_ne h),AH.le_refl _⟩
end Go.Proofs.YtinbjdkibmkgbaaGreatDoor.p
namespace Go.Proofs.YtinbjdkibmkgbaaGreatDoor.p
open Go.Proofs Go Go.Cn code
set_option linter.unusedSimpArgs false
set_option linter.unusedVariables false
section
variable (ts:List Tk)(e:Int)
def behL (s:St):Nat->Nat->Int->Nat
 |0,i,_=>i
 |d+1,i,n=>
  let n1:=if atS ts i [40] s then IntKind.i64.wrap (n+1) else n
  if atS ts i [41] s then
   if IntKind.i64.wrap (n1-1)=0 then i+1 else behL s d (i+1) (IntKind.i64.wrap (n1-1))
  else behL s d (i+1) n1
def behindS (i:Nat)(s:St):Nat:=if atS ts i [40] s then behL ts s (ts.length-i) i 0 else i+1
def contextS (s:St):Bool:=if isS ts [40] s then atS ts (behindS ts s.i s) [61,62] s else kindS ts 2 s&&atS ts (behindS ts (s.i+1) s) [61,62] s
end
section
variable {ts:List Tk}{e:Int}(hts:ts.length<=1000000)
include hts in
theorem behind_ok (i:Nat)(s:St)(hi:i<=ts.length):PC ts e 111 [.int .i64 (i:Nat)] (.int .i64 (behindS ts i s:Nat)) s s:=by
 refine PC.intro t111 fun K h b hk hK=>?_
 unfold behindS
 have w0:IntKind.i64.wrap ((i:Int)+1)=((i+1:Nat):Int):=by rw[wrap64 ⟨by omega,by omega⟩];rfl
 simp only[u_C c111.eq_1,rn,pevA,seval]
 refine (at_ok i [40] s).use (AH.set_same _ _ _) hk ?_
 cases c0:atS ts i [40] s with
 |false=>
  simp only[rn,pevA,seval,w0]
  exact PC.fin (.refl _) (AH.le_refl _) (hK _)
 |true=>
  simp only[rn,pevA,seval]
  refine aloop (α:=Nat×Int) (fun x fr h1=>fr 0=.ptr b 0/\fr 1=.int .i64 (x.1:Nat)/\fr 5=.int .i64 x.2/\x.1<=ts.length/\behL ts s (ts.length-x.1) x.1 x.2=behL ts s (ts.length-i) i 0/\h1=h.set b (parO ts e s)) (fun x=>ts.length-x.1) (i,0) ⟨rfl,rfl,rfl,hi,rfl,rfl⟩ ?_
  generalize behL ts s (ts.length-i) i 0=r
  clear c0 w0 hi
  rintro⟨j,n⟩ fr h1 ⟨f0,f1,f5,hj,hr,rfl⟩
  simp only at f1 f5 hj hr
  by_cases hlt:j<ts.length
  ·have c1:decide ((j:Int)<(ts.length:Int))=true:=decide_eq_true (by omega)
   have w:IntKind.i64.wrap ((j:Int)+1)=((j+1:Nat):Int):=by rw[wrap64 ⟨by omega,by omega⟩];rfl
   have hd:ts.length-j=(ts.length-(j+1))+1:=by omega
   rw[hd,behL] at hr
   simp only[u_C l111_0.eq_1,rn,pevA,seval,f0,f1,f5,parO,tkC_len,c1]
   refine (at_ok j [40] s).use (AH.set_same _ _ _) hk ?_
   cases c2:atS ts j [40] s with
   |true=>
    simp only[c2,Bool.false_eq_true,if_true,if_false] at hr
    simp only[rn,pevA,seval,f0,f1,f5]
    refine (at_ok j [41] s).use (AH.set_same _ _ _) hk ?_
    cases c3:atS ts j [41] s with
    |true=>
     simp only[c3,Bool.false_eq_true,if_true,if_false] at hr
     by_cases hz:IntKind.i64.wrap (IntKind.i64.wrap (n+1)-1)=0
     ·rw[if_pos hz] at hr
      simp only[rn,pevA,seval,f0,f1,f5,hz,w]
      rw[hr]
      exact PC.fin (.refl _) (AH.le_refl _) (hK _)
     ·rw[if_neg hz] at hr
      simp only[rn,pevA,seval,f0,f1,f5,hz,w]
      exact⟨(j+1,IntKind.i64.wrap (IntKind.i64.wrap (n+1)-1)),by show ts.length-(j+1)<ts.length-j;omega,f0,rfl,rfl,hlt,hr,rfl⟩
    |false=>
     simp only[c3,Bool.false_eq_true,if_true,if_false] at hr
     simp only[rn,pevA,seval,f0,f1,f5,w]
     exact⟨(j+1,IntKind.i64.wrap (n+1)),by show ts.length-(j+1)<ts.length-j;omega,f0,rfl,rfl,hlt,hr,rfl⟩
   |false=>
    simp only[c2,Bool.false_eq_true,if_true,if_false] at hr
    simp only[rn,pevA,seval,f0,f1,f5]
    refine (at_ok j [41] s).use (AH.set_same _ _ _) hk ?_
    cases c3:atS ts j [41] s with
    |true=>
     simp only[c3,Bool.false_eq_true,if_true,if_false] at hr
     by_cases hz:IntKind.i64.wrap (n-1)=0
     ·rw[if_pos hz] at hr
      simp only[rn,pevA,seval,f0,f1,f5,hz,w]
      rw[hr]
      exact PC.fin (.refl _) (AH.le_refl _) (hK _)
     ·rw[if_neg hz] at hr
      simp only[rn,pevA,seval,f0,f1,f5,hz,w]
      exact⟨(j+1,IntKind.i64.wrap (n-1)),by show ts.length-(j+1)<ts.length-j;omega,f0,rfl,rfl,hlt,hr,rfl⟩
    |false=>
     simp only[c3,Bool.false_eq_true,if_true,if_false] at hr
     simp only[rn,pevA,seval,f0,f1,f5,w]
     exact⟨(j+1,n),by show ts.length-(j+1)<ts.length-j;omega,f0,rfl,f5,hlt,hr,rfl⟩
  ·have hje:j=ts.length:=by omega
   subst hje
   have c1:decide ((ts.length:Int)<(ts.length:Int))=false:=by simp
   rw[Nat.sub_self,behL] at hr
   simp only[u_C l111_0.eq_1,rn,pevA,seval,f0,f1,f5,parO,tkC_len,c1,hr]
   rw[<-hr]
   exact PC.fin (.refl _) (AH.le_refl _) (hK _)
include hts in
theorem context_ok (s:St)(hs:s.i<=ts.length):PC ts e 98 [] (.bool (contextS ts s)) s s:=by
 refine PC.intro t98 fun K h b hk hK=>?_
 unfold contextS
 simp only[u_C c98.eq_1,rn,pevA,seval]
 refine (is_ok [40] s).use (AH.set_same _ _ _) hk ?_
 cases c0:isS ts [40] s with
 |true=>
  simp only[rn,pevA,seval,parO]
  refine (behind_ok hts s.i s hs).use (AH.set_same _ _ _) hk ?_
  simp only[rn,pevA,seval]
  refine (at_ok _ [61,62] s).use (AH.set_same _ _ _) hk ?_
  simp only[rn,pevA,seval]
  exact PC.fin (.refl _) (AH.le_refl _) (hK _)
 |false=>
  simp only[rn,pevA,seval]
  refine (kind_ok 2 s).use (AH.set_same _ _ _) hk ?_
  cases c1:kindS ts 2 s with
  |false=>
   simp only[rn,pevA,seval,Bool.false_and]
   exact PC.fin (.refl _) (AH.le_refl _) (hK _)
  |true=>
   have hlt:=kindS_lt c1
   simp only[rn,pevA,seval,parO,w1 (Nat.lt_of_lt_of_le hlt hts)]
   refine (behind_ok hts (s.i+1) s hlt).use (AH.set_same _ _ _) hk ?_
   simp only[rn,pevA,seval]
   refine (at_ok _ [61,62] s).use (AH.set_same _ _ _) hk ?_
   simp only[rn,pevA,seval]
   exact PC.fin (.refl _) (AH.le_refl _) (hK _)
end
end Go.Proofs.YtinbjdkibmkgbaaGreatDoor.p
namespace Go.Proofs.YtinbjdkibmkgbaaGreatDoor.p
open Go.Proofs Go Go.Cn code
set_option linter.unusedSimpArgs false
set_option linter.unusedVariables false
section
variable {ts:List Tk}{e:Int}
theorem amiss_bad (c p:Int)(hc:c≠0)(s:St):fineS (amissS c p s)=false:=by
 unfold amissS
 split
 ·simp[fineS,hc]
 ·rename_i h;simpa using h
theorem wrong_bad (s:St):fineS (wrongS ts e s)=false:=amiss_bad _ _ (by decide) s
theorem kindS_fine {k:Int}{s:St}(h:kindS ts k s=true):fineS s=true:=by unfold kindS at h;revert h;cases fineS s<;>simp
theorem atS_fine {i:Nat}{str:Nm}{s:St}(h:atS ts i str s=true):fineS s=true:=by unfold atS at h;revert h;cases fineS s<;>simp
theorem isS_fine {str:Nm}{s:St}(h:isS ts str s=true):fineS s=true:=atS_fine h
theorem argument_fine {s:St}(h:argumentS ts s=true):fineS s=true:=by
 unfold argumentS at h
 rw[Bool.or_eq_true,Bool.or_eq_true] at h
 rcases h with (h|h)|h
 ·exact kindS_fine h
 ·exact kindS_fine h
 ·exact isS_fine h
theorem take_cases (str:Nm)(s:St):(isS ts str s=true/\takeS ts e str s=nextS s)\/(isS ts str s=false/\takeS ts e str s=wrongS ts e s):=by
 unfold takeS
 cases isS ts str s<;>simp
theorem word_cases (k:Int)(s:St):(kindS ts k s=true/\(wordS ts e k s).2=nextS s)\/(kindS ts k s=false/\(wordS ts e k s).2=wrongS ts e s):=by
 unfold wordS
 cases kindS ts k s<;>simp
theorem open_cases (s:St):((openS ts e s).i=s.i+1/\fineS (openS ts e s)=fineS s)\/((openS ts e s).i=s.i/\fineS (openS ts e s)=false):=by
 unfold openS
 split
 ·exact .inr ⟨amissS_i _ _ _,amiss_bad _ _ (by decide) _⟩
 ·exact .inl ⟨rfl,rfl⟩
structure Prog (s s':St)(c:Nat):Prop where
 i:s.i<=s'.i
 f:fineS s'=true->fineS s=true/\c<=s'.i-s.i
 b:c<=s'.i-s.i+1
theorem Prog.wrong (s:St):Prog s (wrongS ts e s) 1:=⟨by rw[wrongS_i];exact Nat.le_refl _,fun h=>by (rw[wrong_bad] at h;cases h),by omega⟩
theorem Prog.word {k:Int}{s:St}(h:kindS ts k s=true):Prog s (wordS ts e k s).2 1:=by
 rcases word_cases (e:=e) k s with⟨_,h2⟩|⟨h1,_⟩
 ·rw[h2]
  exact⟨Nat.le_succ _,fun _=>⟨kindS_fine h,by show 1<=s.i+1-s.i;omega⟩,by omega⟩
 ·rw[h] at h1;cases h1
theorem Prog.bracket {s s1:St}{c:Nat}(hf:fineS s=true)(h:Prog (openS ts e s) s1 c)(str:Nm):Prog s (shutS (takeS ts e str s1)) c:=by
 have hi:=h.i
 have hb:=h.b
 rcases open_cases (ts:=ts) (e:=e) s with⟨o1,o2⟩|⟨o1,o2⟩<;>rcases take_cases (ts:=ts) (e:=e) str s1 with⟨t1,t2⟩|⟨t1,t2⟩
 ·have:=h.f (isS_fine t1)
  rw[t2]
  exact⟨by show s.i<=s1.i+1;omega,fun _=>⟨hf,by show c<=s1.i+1-s.i;omega⟩,by show c<=s1.i+1-s.i+1;omega⟩
 ·rw[t2]
  refine⟨by show s.i<=(wrongS ts e s1).i;rw[wrongS_i];omega,fun h=>?_,by show c<=(wrongS ts e s1).i-s.i+1;rw[wrongS_i];omega⟩
  have:fineS (wrongS ts e s1)=true:=h
  rw[wrong_bad] at this;cases this
 ·have:=(h.f (isS_fine t1)).1
  rw[o2] at this;cases this
 ·rw[t2]
  refine⟨by show s.i<=(wrongS ts e s1).i;rw[wrongS_i];omega,fun h=>?_,by show c<=(wrongS ts e s1).i-s.i+1;rw[wrongS_i];omega⟩
  have:fineS (wrongS ts e s1)=true:=h
  rw[wrong_bad] at this;cases this
theorem cntT_mk (k:Int)(n:Nm)(l:List Ty):cntT (.mk k n l)=1+cntTs l:=by rw[cntT]
theorem types_prog:∀n:Nat,(∀s t s',argS ts e n s=some (t,s')->Prog s s' (cntT t))/\(∀acc s l s',argsS ts e n acc s=some (l,s')->∃c,cntTs l=cntTs acc+c/\Prog s s' c/\(fineS s=false->c=0))/\
  (∀s t s',appliedS ts e n s=some (t,s')->Prog s s' (cntT t))/\(∀s t s',typS ts e n s=some (t,s')->Prog s s' (cntT t))
 |0=>⟨fun s t s' h=>by (rw[argS] at h;cases h),fun acc s l s' h=>by (rw[argsS] at h;cases h),fun s t s' h=>by (rw[appliedS] at h;cases h),fun s t s' h=>by (rw[typS] at h;cases h)⟩
 |n+1=>by
  obtain⟨iA,iL,iP,iT⟩:=types_prog n
  refine⟨?_,?_,?_,?_⟩
  ·intro s t s' h
   rw[argS] at h
   split at h
   ·rename_i c;cases h;exact .word c
   ·split at h
    ·rename_i c;cases h;exact .word c
    ·split at h
     ·rename_i c
      cases hq:typS ts e n (openS ts e s) with
      |none=>rw[hq] at h;cases h
      |some p=>
       obtain⟨t1,s1⟩:=p
       rw[hq] at h
       cases h
       exact (iT _ _ _ hq).bracket (isS_fine c) _
     ·cases h;exact .wrong s
  ·intro acc s l s' h
   rw[argsS] at h
   split at h
   ·rename_i c
    cases hq:argS ts e n s with
    |none=>rw[hq] at h;cases h
    |some p=>
     obtain⟨t1,s1⟩:=p
     rw[hq] at h
     have p1:=iA _ _ _ hq
     obtain⟨c2,h1,p2,h2⟩:=iL _ _ _ _ h
     rw[cntTs_app,cntTs,cntTs] at h1
     refine⟨cntT t1+c2,by omega,⟨Nat.le_trans p1.i p2.i,fun hf=>?_,?_⟩,fun hf=>by rw[argument_fine c] at hf;cases hf⟩
     ·have f2:=p2.f hf
      have f1:=p1.f f2.1
      have:=p1.i;have:=p2.i
      exact⟨f1.1,by omega⟩
     ·have:=p1.i;have:=p2.i;have b1:=p1.b;have b2:=p2.b
      cases hf:fineS s1 with
      |false=>have:=h2 hf;omega
      |true=>have:=(p1.f hf).2;omega
   ·cases h
    exact⟨0,rfl,⟨Nat.le_refl _,fun hf=>⟨hf,Nat.zero_le _⟩,Nat.zero_le _⟩,fun _=>rfl⟩
  ·intro s t s' h
   rw[appliedS] at h
   split at h
   ·rename_i c
    cases hq:argsS ts e n [] (wordS ts e 2 s).2 with
    |none=>rw[hq] at h;cases h
    |some p=>
     obtain⟨l,s1⟩:=p
     rw[hq] at h
     cases h
     obtain⟨c2,h1,p2,h2⟩:=iL _ _ _ _ hq
     have p1:=Prog.word (e:=e) c
     rw[cntTs] at h1
     have:=p1.i;have:=p2.i;have:=p2.b
     rcases word_cases (ts:=ts) (e:=e) 2 s with⟨_,h4⟩|⟨h3,_⟩
     ·have hi:(wordS ts e 2 s).2.i=s.i+1:=by rw[h4];rfl
      rw[cntT_mk]
      refine⟨by omega,fun hf=>⟨kindS_fine c,?_⟩,by omega⟩
      have:=(p2.f hf).2
      omega
     ·rw[c] at h3;cases h3
   ·exact iA _ _ _ h
  ·intro s t s' h
   rw[typS] at h
   cases ha:appliedS ts e n s with
   |none=>rw[ha] at h;cases h
   |some p=>
    obtain⟨t1,s1⟩:=p
    rw[ha] at h
    have p1:=iP _ _ _ ha
    simp only at h
    split at h
    ·rename_i c
     cases hq:typS ts e n (nextS s1) with
     |none=>rw[hq] at h;cases h
     |some p=>
      obtain⟨u,s2⟩:=p
      rw[hq] at h
      cases h
      have p2:=iT _ _ _ hq
      have f1:=p1.f (isS_fine c)
      have:=p1.i;have i2:s1.i+1<=s'.i:=p2.i;have b2:cntT u<=s'.i-(s1.i+1)+1:=p2.b
      rw[cntT_mk,cntTs,cntTs,cntTs]
      refine⟨by omega,fun hf=>⟨f1.1,?_⟩,by omega⟩
      have:cntT u<=s'.i-(s1.i+1):=(p2.f hf).2
      omega
    ·cases h;exact p1
end
end Go.Proofs.YtinbjdkibmkgbaaGreatDoor.p
namespace Go.Proofs.YtinbjdkibmkgbaaGreatDoor.p
open Go.Proofs Go Go.Cn code
set_option linter.unusedSimpArgs false
set_option linter.unusedVariables false
abbrev Pd:=Nm×Ty
def pdR (p:Pd):List AV:=.str p.1::tyR p.2
def pdsR (l:List Pd):List (List AV):=l.map pdR
theorem pdsR_len (l:List Pd):(pdsR l).length=l.length:=by rw[pdsR,List.length_map]
theorem pdsR_app (l:List Pd)(p:Pd):pdsR l++[pdR p]=pdsR (l++[p]):=by simp[pdsR]
theorem pdsR_get (l:List Pd)(i:Nat):(pdsR l)[i]?=(l[i]?).map pdR:=by rw[pdsR,List.getElem?_map]
def cntP:List Pd->Nat
 |[]=>0
 |p::l=>cntT p.2+cntP l
theorem cntP_app (l m:List Pd):cntP (l++m)=cntP l+cntP m:=by
 induction l with
 |nil=>simp[cntP]
 |cons a l ih=>rw[List.cons_append,cntP,cntP,ih];omega
section
variable (ts:List Tk)(e:Int)
def predS (plain:Bool)(n:Nat)(s:St):Option (Pd×St):=
 if plain then some (((wordS ts e 2 s).1,.mk 1 (wordS ts e 1 (wordS ts e 2 s).2).1 []),(wordS ts e 1 (wordS ts e 2 s).2).2)
 else match argS ts e n (wordS ts e 2 s).2 with
  |some (t,s')=>some (((wordS ts e 2 s).1,t),s')
  |none=>none
def predsL (plain:Bool):Nat->List Pd->St->Option (List Pd×St)
 |0,_,_=>none
 |n+1,acc,s=>if isS ts [44] s then match predS ts e plain n (nextS s) with
   |some (p,s')=>predsL plain n (acc++[p]) s'
   |none=>none
  else some (acc,s)
def predsS (plain:Bool)(n:Nat)(s:St):Option (List Pd×St):=
 if contextS ts s then
  if isS ts [40] s then match predS ts e plain n (nextS s) with
   |some (p,s1)=>match predsL ts e plain n [p] s1 with
    |some (l,s2)=>some (l,takeS ts e [61,62] (takeS ts e [41] s2))
    |none=>none
   |none=>none
  else match predS ts e plain n s with
   |some (p,s1)=>some ([p],takeS ts e [61,62] s1)
   |none=>none
 else some ([],s)
end
section
variable {ts:List Tk}{e:Int}
theorem Prog.zero (s:St):Prog s s 0:=⟨Nat.le_refl _,fun h=>⟨h,Nat.zero_le _⟩,Nat.zero_le _⟩
theorem Prog.pre {s s1 s':St}{c d:Nat}(h1:Prog s s1 d)(h2:Prog s1 s' c):Prog s s' c:=by
 have:=h1.i;have:=h2.i;have:=h2.b
 refine⟨by omega,fun hf=>?_,by omega⟩
 have g2:=h2.f hf
 have g1:=h1.f g2.1
 exact⟨g1.1,by omega⟩
theorem Prog.wd (k:Int)(s:St):Prog s (wordS ts e k s).2 1:=by
 rcases word_cases (ts:=ts) (e:=e) k s with⟨h1,_⟩|⟨_,h2⟩
 ·exact .word h1
 ·rw[h2];exact .wrong s
theorem Prog.take {s s1:St}{c:Nat}(h:Prog s s1 c)(str:Nm):Prog s (takeS ts e str s1) c:=by
 have hi:=h.i;have hb:=h.b
 rcases take_cases (ts:=ts) (e:=e) str s1 with⟨t1,t2⟩|⟨t1,t2⟩
 ·have:=h.f (isS_fine t1)
  rw[t2]
  exact⟨by show s.i<=s1.i+1;omega,fun _=>⟨this.1,by show c<=s1.i+1-s.i;omega⟩,by show c<=s1.i+1-s.i+1;omega⟩
 ·rw[t2]
  exact⟨by rw[wrongS_i];omega,fun h=>by (rw[wrong_bad] at h;cases h),by rw[wrongS_i];omega⟩
theorem Prog.nx {s s1:St}{c:Nat}(hf:fineS s=true)(h:Prog (nextS s) s1 c):Prog s s1 c:=by
 have i2:s.i+1<=s1.i:=h.i
 have b2:c<=s1.i-(s.i+1)+1:=h.b
 refine⟨by omega,fun h1=>⟨hf,?_⟩,by omega⟩
 have:c<=s1.i-(s.i+1):=(h.f h1).2
 omega
theorem Prog.two {s s1 s':St}{c1 c2:Nat}(p1:Prog s s1 c1)(p2:Prog s1 s' c2)(h2:fineS s1=false->c2=0):Prog s s' (c1+c2):=by
 have:=p1.i;have:=p2.i;have b1:=p1.b;have b2:=p2.b
 refine⟨by omega,fun hf=>?_,?_⟩
 ·have f2:=p2.f hf
  have f1:=p1.f f2.1
  exact⟨f1.1,by omega⟩
 ·cases hf:fineS s1 with
  |false=>have:=h2 hf;omega
  |true=>have:=(p1.f hf).2;omega
theorem pred_prog {plain:Bool}{n:Nat}{s s':St}{p:Pd}(h:predS ts e plain n s=some (p,s')):Prog s s' (cntT p.2):=by
 unfold predS at h
 split at h
 ·cases h
  exact (Prog.wd 2 s).pre (.wd 1 _)
 ·cases hq:argS ts e n (wordS ts e 2 s).2 with
  |none=>rw[hq] at h;cases h
  |some q=>
   obtain⟨t,s1⟩:=q
   rw[hq] at h
   cases h
   exact (Prog.wd 2 s).pre ((types_prog n).1 _ _ _ hq)
theorem predsL_prog {plain:Bool}:∀(n:Nat)(acc:List Pd)(s:St)(l:List Pd)(s':St),predsL ts e plain n acc s=some (l,s')->∃c,cntP l=cntP acc+c/\Prog s s' c/\(fineS s=false->c=0)
 |0,acc,s,l,s',h=>by rw[predsL] at h;cases h
 |n+1,acc,s,l,s',h=>by
  rw[predsL] at h
  split at h
  ·rename_i c
   cases hq:predS ts e plain n (nextS s) with
   |none=>rw[hq] at h;cases h
   |some q=>
    obtain⟨p,s1⟩:=q
    rw[hq] at h
    obtain⟨c2,h1,p2,h2⟩:=predsL_prog n _ _ _ _ h
    rw[cntP_app,cntP,cntP] at h1
    exact⟨cntT p.2+c2,by omega,((pred_prog hq).nx (isS_fine c)).two p2 h2,fun hf=>by rw[isS_fine c] at hf;cases hf⟩
  ·cases h
   exact⟨0,rfl,.zero _,fun _=>rfl⟩
theorem preds_prog {plain:Bool}{n:Nat}{s s':St}{l:List Pd}(h:predsS ts e plain n s=some (l,s')):Prog s s' (cntP l):=by
 unfold predsS at h
 split at h
 ·split at h
  ·rename_i c
   cases hq:predS ts e plain n (nextS s) with
   |none=>rw[hq] at h;cases h
   |some q=>
    obtain⟨p,s1⟩:=q
    rw[hq] at h
    simp only at h
    cases hl:predsL ts e plain n [p] s1 with
    |none=>rw[hl] at h;cases h
    |some q=>
     obtain⟨l2,s2⟩:=q
     rw[hl] at h
     cases h
     obtain⟨c2,h1,p2,h2⟩:=predsL_prog n _ _ _ _ hl
     rw[h1,cntP,cntP]
     exact ((((pred_prog hq).nx (isS_fine c)).two p2 h2).take _).take _
  ·cases hq:predS ts e plain n s with
   |none=>rw[hq] at h;cases h
   |some q=>
    obtain⟨p,s1⟩:=q
    rw[hq] at h
    cases h
    rw[cntP,cntP]
    exact (pred_prog hq).take _
 ·cases h
  exact .zero s
variable (hts:ts.length<=1000000)
include hts in
theorem pred_ok {n:Nat}(hn:n<=most)(plain:Bool)(s s':St)(p:Pd)(hs:s.i<=ts.length)(hr:predS ts e plain n s=some (p,s')):PC ts e 99 [.bool plain] (.agg (pdR p)) s s'/\s'.i<=ts.length:=by
 unfold predS at hr
 have hi1:=wordS_i (e:=e) hs 2
 refine⟨PC.intro t99 fun K h b hk hK=>?_,?_⟩
 ·simp only[u_C c99.eq_1,rn,pevA,seval]
  intro b2 hb2 hk2
  obtain⟨n2,hb2⟩:=AH.set_none.1 hb2
  simp only[rn,pevA,seval]
  refine (word_ok hts 2 s).use (by simp only[kG,kN,n2,n2.symm]<;>rfl) hk ?_
  simp only[rn,pevA,seval,kN,n2,n2.symm]
  intro b3 hb3 hk3
  obtain⟨n32,n3,hb3⟩:=new3.1 hb3
  cases plain with
  |true=>
   rw[if_pos rfl] at hr
   cases hr
   simp only[rn,pevA,seval,kN,n2,n2.symm,n3,n3.symm,n32,n32.symm,hk3]
   refine (word_ok hts 1 _).use (by simp only[kG,kN,n2,n2.symm,n3,n3.symm,n32,n32.symm]<;>rfl) hk ?_
   simp only[rn,pevA,seval,kN,n2,n2.symm,n3,n3.symm,n32,n32.symm,hk3,hk2]
   exact PC.fin (.aggL ⟨.refl _,.refl _,.refl _,.nil _ _ _,trivial⟩) (by repeat (first|exact AH.le_refl _|refine le_set ?_ (AH.set_none.2 ⟨n2,hb2⟩)|refine le_del ?_ (AH.set_none.2 ⟨n2,hb2⟩)|refine le_set ?_ (AH.set_none.2 ⟨n3,hb3⟩)|refine le_del ?_ (AH.set_none.2 ⟨n3,hb3⟩))) (hK _)
  |false=>
   rw[if_neg (by decide)] at hr
   cases hq:argS ts e n (wordS ts e 2 s).2 with
   |none=>rw[hq] at hr;cases hr
   |some q=>
    obtain⟨⟨tk,tn,tl⟩,s1⟩:=q
    rw[hq] at hr
    cases hr
    simp only[rn,pevA,seval,kN,n2,n2.symm,n3,n3.symm,n32,n32.symm,hk3]
    refine (arg_ok hts hn _ _ _ hi1 hq).1.use (by simp only[kG,kN,n2,n2.symm,n3,n3.symm,n32,n32.symm]<;>rfl) hk ?_
    simp only[rn,pevA,seval,kN,n2,n2.symm,n3,n3.symm,n32,n32.symm,hk3,hk2,tyR]
    exact PC.fin (.refl _) (by repeat (first|exact AH.le_refl _|refine le_set ?_ (AH.set_none.2 ⟨n2,hb2⟩)|refine le_del ?_ (AH.set_none.2 ⟨n2,hb2⟩)|refine le_set ?_ (AH.set_none.2 ⟨n3,hb3⟩)|refine le_del ?_ (AH.set_none.2 ⟨n3,hb3⟩))) (hK _)
 ·split at hr
  ·cases hr;exact wordS_i hi1 1
  ·cases hq:argS ts e n (wordS ts e 2 s).2 with
   |none=>rw[hq] at hr;cases hr
   |some q=>
    obtain⟨t,s1⟩:=q
    rw[hq] at hr
    cases hr
    exact (arg_ok hts hn _ _ _ hi1 hq).2
end
end Go.Proofs.YtinbjdkibmkgbaaGreatDoor.p
namespace Go.Proofs.YtinbjdkibmkgbaaGreatDoor.p
open Go.Proofs Go Go.Cn code
set_option linter.unusedSimpArgs false
set_option linter.unusedVariables false
structure Sch where
 vars:List Nm
 ctx:List Pd
 ty:Ty
def schR (s:Sch):List AV:=.lst 9 (strC s.vars) .no::.lst 156 (pdsR s.ctx) .no::tyR s.ty
def ctxVars (out:List Nm)(l:List Pd):List Nm:=l.foldl (fun o p=>varsS o p.2) out
section
variable (ts:List Tk)(e:Int)
def schemeS (n:Nat)(s:St):Option (Sch×St):=
 match predsS ts e false n s with
 |some (ctx,s1)=>match typS ts e n s1 with
  |some (t,s2)=>some (⟨ctxVars (varsS [] t) ctx,ctx,t⟩,s2)
  |none=>none
 |none=>none
end
section
variable {ts:List Tk}{e:Int}(hts:ts.length<=1000000)
include hts in
theorem predsL_i {plain:Bool}:∀(n:Nat),n<=most->∀(acc:List Pd)(s:St)(l:List Pd)(s':St),s.i<=ts.length->predsL ts e plain n acc s=some (l,s')->s'.i<=ts.length
 |0,_,acc,s,l,s',_,h=>by rw[predsL] at h;cases h
 |n+1,hn,acc,s,l,s',hs,h=>by
  rw[predsL] at h
  split at h
  ·rename_i c
   cases hq:predS ts e plain n (nextS s) with
   |none=>rw[hq] at h;cases h
   |some q=>
    obtain⟨p,s1⟩:=q
    rw[hq] at h
    exact predsL_i n (by omega) _ _ _ _ (pred_ok hts (by omega) _ _ _ _ (show (nextS s).i<=_ from isS_lt c) hq).2 h
  ·cases h;exact hs
include hts in
theorem preds_ok {n:Nat}(hn:n+1<=most)(plain:Bool)(s s':St)(l:List Pd)(hs:s.i<=ts.length)(hr:predsS ts e plain n s=some (l,s')):PC ts e 77 [.bool plain] (.lst 156 (pdsR l) .no) s s'/\s'.i<=ts.length:=by
 unfold predsS at hr
 refine⟨?_,?_⟩
 ·intro K h b hk
  refine ACall.retQ t77 fun hK0=>?_
  have hK:∀o,KOk K (h.set b o):=fun o=>by have:=hK0.set b o;rwa [AH.set_set] at this
  simp only[u_C c77.eq_1,rn,pevA,seval]
  refine (context_ok hts s hs).use (AH.set_same _ _ _) hk ?_
  cases c0:contextS ts s with
  |false=>
   rw[c0,if_neg (by decide)] at hr
   cases hr
   simp only[rn,pevA,seval]
   exact PC.fin (.nil _ _ _) (AH.le_refl _) (hK _)
  |true=>
   rw[c0,if_pos rfl] at hr
   simp only[rn,pevA,seval]
   refine (is_ok [40] s).use (AH.set_same _ _ _) hk ?_
   cases c1:isS ts [40] s with
   |true=>
    rw[c1,if_pos rfl] at hr
    have hlt:=isS_lt c1
    cases hq:predS ts e plain n (nextS s) with
    |none=>rw[hq] at hr;cases hr
    |some q=>
     obtain⟨⟨pn,⟨pk,pt,pl⟩⟩,s1⟩:=q
     rw[hq] at hr
     simp only at hr
     obtain⟨hp,hi1⟩:=pred_ok hts (by omega) _ _ _ _ (show (nextS s).i<=_ from hlt) hq
     cases hl:predsL ts e plain n [(pn,.mk pk pt pl)] s1 with
     |none=>rw[hl] at hr;cases hr
     |some q=>
      obtain⟨l2,s2⟩:=q
      rw[hl] at hr
      cases hr
      simp only[rn,pevA,seval,parO,w1 (Nat.lt_of_lt_of_le hlt hts),hk]
      refine hp.use (AH.set_same _ _ _) hk ?_
      simp only[rn,pevA,seval,pdR,tyR]
      refine WO.append (i:=0) (.one _ 156 4) rfl rfl rfl trivial (by decide) (by simp) rfl (.inr rfl) (fun _=>by simp[capOk]) (by simp[big_eq]) fun tag2 t2 hT2=>?_
      simp only[rn,pevA,seval]
      have ha:[[AV.str pn,.int .i64 pk,.str pt,.lst 30 (tysR pl) .no]]=pdsR [(pn,.mk pk pt pl)]:=rfl
      rw[ha]
      refine aloop (α:=Nat×List Pd×St) (fun x fr h1=>fr 0=.ptr b 0/\fr 1=.bool plain/\x.2.2.i<=ts.length/\x.1<=n/\x.2.1.length+x.1<=most/\predsL ts e plain x.1 x.2.1 x.2.2=some (l,s2)/\
       ∃tag t',fr 5=.lst 156 (pdsR x.2.1) tag/\Toks h.toks t' [(tag,156,4,0)]/\h1=(h.set b (parO ts e x.2.2)).tk t') (fun x=>x.1) (n,[(pn,.mk pk pt pl)],s1)
       ⟨rfl,rfl,hi1,Nat.le_refl _,by show 1+n<=most;omega,hl,tag2,t2,rfl,hT2,rfl⟩ ?_
      clear hl hT2 hq hp hi1
      rintro⟨m,acc,s3⟩ fr h1 ⟨f0,f1,hi,hm,hB,hl,tag,t',f5,hT,rfl⟩
      simp only at f0 f1 f5 hi hm hB hl
      cases m with
      |zero=>rw[predsL] at hl;cases hl
      |succ m=>
       rw[predsL] at hl
       simp only[u_C l77_0.eq_1,rn,pevA,seval,f0,f1,f5]
       refine (is_ok [44] s3).use (AH.set_same _ _ _) hk ?_
       cases c2:isS ts [44] s3 with
       |true=>
        rw[c2,if_pos rfl] at hl
        have hlt3:=isS_lt c2
        cases hq:predS ts e plain m (nextS s3) with
        |none=>rw[hq] at hl;cases hl
        |some q=>
         obtain⟨⟨qn,⟨qk,qt,ql⟩⟩,s4⟩:=q
         rw[hq] at hl
         obtain⟨hp,hi4⟩:=pred_ok hts (by omega) _ _ _ _ (show (nextS s3).i<=_ from hlt3) hq
         simp only[rn,pevA,seval,f0,f1,f5,parO,w1 (Nat.lt_of_lt_of_le hlt3 hts),hk]
         refine hp.use (AH.set_same _ _ _) hk ?_
         simp only[rn,pevA,seval,pdR,tyR,f0,f1,f5]
         refine WO.append (i:=0) hT rfl rfl rfl trivial (by decide) (by simp) rfl (.inr rfl) (fun _=>?_) ?_ fun tag3 t3 hT3=>?_
         ·simp[capOk,pdsR_len];unfold most at hB;omega
         ·simp[big_eq,pdsR_len];unfold most at hB;omega
         have ha:pdsR acc++[[AV.str qn,.int .i64 qk,.str qt,.lst 30 (tysR ql) .no]]=pdsR (acc++[(qn,.mk qk qt ql)]):=pdsR_app acc (qn,.mk qk qt ql)
         rw[ha]
         simp only[rn,pevA,seval]
         exact⟨(m,acc++[(qn,.mk qk qt ql)],s4),by show m<m+1;omega,f0,f1,hi4,by show m<=n;omega,by show (acc++[_]).length+m<=most;simp;omega,hl,tag3,t3,rfl,hT3,rfl⟩
       |false=>
        rw[c2,if_neg (by decide)] at hl
        cases hl
        simp only[rn,pevA,seval,f0,f1,f5]
        refine (take_ok hts [41] s2).use (AH.set_same _ _ _) hk ?_
        simp only[rn,pevA,seval,f0,f1,f5]
        refine (take_ok hts [61,62] _).use (AH.set_same _ _ _) hk ?_
        simp only[rn,pevA,seval,f0,f1,f5]
        exact PC.fin (.no _ _ _) (by repeat (first|exact AH.le_refl _|refine le_tk ?_ hT.le)) (hK _)
   |false=>
    rw[c1,if_neg (by decide)] at hr
    cases hq:predS ts e plain n s with
    |none=>rw[hq] at hr;cases hr
    |some q=>
     obtain⟨⟨pn,⟨pk,pt,pl⟩⟩,s1⟩:=q
     rw[hq] at hr
     cases hr
     obtain⟨hp,hi1⟩:=pred_ok hts (by omega) _ _ _ _ hs hq
     simp only[rn,pevA,seval]
     refine hp.use (AH.set_same _ _ _) hk ?_
     simp only[rn,pevA,seval,pdR,tyR]
     refine WO.append (i:=0) (.one _ 156 4) rfl rfl rfl trivial (by decide) (by simp) rfl (.inr rfl) (fun _=>by simp[capOk]) (by simp[big_eq]) fun tag2 t2 hT=>?_
     simp only[rn,pevA,seval]
     refine (take_ok hts [61,62] s1).use (AH.set_same _ _ _) hk ?_
     simp only[rn,pevA,seval]
     exact PC.fin (.no _ _ _) (by repeat (first|exact AH.le_refl _|refine le_tk ?_ hT.le)) (hK _)
 ·split at hr
  ·split at hr
   ·rename_i c
    cases hq:predS ts e plain n (nextS s) with
    |none=>rw[hq] at hr;cases hr
    |some q=>
     obtain⟨p,s1⟩:=q
     rw[hq] at hr
     simp only at hr
     have hi1:=(pred_ok hts (by omega) _ _ _ _ (show (nextS s).i<=_ from isS_lt c) hq).2
     cases hl:predsL ts e plain n [p] s1 with
     |none=>rw[hl] at hr;cases hr
     |some q=>
      obtain⟨l2,s2⟩:=q
      rw[hl] at hr
      cases hr
      exact takeS_i (takeS_i (predsL_i hts n (by omega) _ _ _ _ hi1 hl) _) _
   ·cases hq:predS ts e plain n s with
    |none=>rw[hq] at hr;cases hr
    |some q=>
     obtain⟨p,s1⟩:=q
     rw[hq] at hr
     cases hr
     exact takeS_i (pred_ok hts (by omega) _ _ _ _ hs hq).2 _
  ·cases hr;exact hs
end
end Go.Proofs.YtinbjdkibmkgbaaGreatDoor.p
namespace Go.Proofs.YtinbjdkibmkgbaaGreatDoor.p
open Go.Proofs Go Go.Cn code
set_option linter.unusedSimpArgs false
set_option linter.unusedVariables false
theorem ctxVars_len:∀(l:List Pd)(out:List Nm),(ctxVars out l).length<=out.length+cntP l
 |[],out=>by simp[ctxVars,cntP]
 |p::l,out=>by
  have:=ctxVars_len l (varsS out p.2)
  have:=varsS_len out p.2
  show (ctxVars (varsS out p.2) l).length<=_
  rw[cntP];omega
theorem ctxVars_app (out:List Nm)(l:List Pd)(p:Pd):ctxVars out (l++[p])=varsS (ctxVars out l) p.2:=by simp[ctxVars]
theorem cntP_at {l:List Pd}{i:Nat}{p:Pd}(h:l[i]?=some p):cntP (l.take i)+cntT p.2<=cntP l:=by
 have:=at_split h
 have e:cntP l=cntP (l.take i++p::l.drop (i+1)):=congrArg cntP this
 rw[cntP_app,cntP] at e;omega
theorem cntP_len:∀l:List Pd,l.length<=cntP l
 |[]=>Nat.zero_le _
 |p::l=>by have:=cntP_len l;have:=cnt_pos p.2;rw[cntP,List.length_cons];omega
section
variable {ts:List Tk}{e:Int}(hts:ts.length<=1000000)
include hts in
theorem scheme_ok {n:Nat}(hn:n+1<=most)(s s':St)(sc:Sch)(hs:s.i<=ts.length)(hr:schemeS ts e n s=some (sc,s')):PC ts e 81 [] (.agg (schR sc)) s s'/\s'.i<=ts.length:=by
 unfold schemeS at hr
 cases hp:predsS ts e false n s with
 |none=>rw[hp] at hr;cases hr
 |some q=>
  obtain⟨ctx,s1⟩:=q
  rw[hp] at hr
  simp only at hr
  cases ht:typS ts e n s1 with
  |none=>rw[ht] at hr;cases hr
  |some q=>
   obtain⟨⟨tk,tn,tl⟩,s2⟩:=q
   rw[ht] at hr
   cases hr
   have g1:=preds_prog hp
   have g2:=(types_prog n).2.2.2 _ _ _ ht
   obtain⟨cp,hi1⟩:=preds_ok hts hn false s s1 ctx hs hp
   obtain⟨ct,hi2⟩:=typ_ok hts (by omega) _ _ _ hi1 ht
   have hB:cntP ctx+cntT (.mk tk tn tl)<=1000002:=by
    have:=g1.i;have:=g1.b;have:=g2.i;have:=g2.b;omega
   have hl:=cntP_len ctx
   refine⟨PC.intro t81 fun K h b hk hK=>?_,hi2⟩
   simp only[u_C c81.eq_1,rn,pevA,seval]
   intro b2 hb2 hk2
   obtain⟨n2,hb2⟩:=AH.set_none.1 hb2
   simp only[rn,pevA,seval]
   intro b3 hb3 hk3
   obtain⟨n32,n3,hb3⟩:=new3.1 hb3
   simp only[rn,pevA,seval]
   refine cp.use (by simp only[kG,kN,n2,n2.symm,n3,n3.symm,n32,n32.symm]<;>rfl) hk ?_
   simp only[rn,pevA,seval,kN,n2,n2.symm,n3,n3.symm,n32,n32.symm,hk3]
   refine ct.use (by simp only[kG,kN,n2,n2.symm,n3,n3.symm,n32,n32.symm]<;>rfl) hk ?_
   simp only[rn,pevA,seval,kN,n2,n2.symm,n3,n3.symm,n32,n32.symm,hk3,tyR]
   refine (vars_ok (.mk tk tn tl) [] 0 .nil (fun h=>absurd rfl h) (by simp;unfold most;omega)).use ?_
   simp only[rn,pevA,seval,kN,n2,n2.symm,n3,n3.symm,n32,n32.symm,hk3]
   have hv0:=varsS_len [] (.mk tk tn tl)
   rw[List.length_nil] at hv0
   generalize varsS [] (.mk tk tn tl)=v0 at hv0 ⊢
   refine aloop (α:=Nat) (fun i fr h1=>fr 0=.ptr b 0/\fr 2=.ptr b2 0/\fr 3=.ptr b3 0/\fr 4=.int .i64 i/\i<=ctx.length/\
    h1=(((h.set b (parO ts e s')).set b2 (.cells [.lst 0 [] .nil,.lst 0 [] .nil,.int .i64 0,.str [],.lst 0 [] .nil] 159)).set b3 (.cells [.lst 9 (strC (ctxVars v0 (ctx.take i))) .no,.lst 156 (pdsR ctx) .no,.int .i64 tk,.str tn,.lst 30 (tysR tl) .no] 159))) (fun i=>ctx.length-i) 0 ⟨rfl,rfl,rfl,rfl,Nat.zero_le _,rfl⟩ ?_
   rintro i fr h1 ⟨f0,f2,f3,f4,hi,rfl⟩
   by_cases hlt:i<ctx.length
   ·have c1:decide ((i:Int)<(ctx.length:Int))=true:=decide_eq_true (by omega)
    have w:IntKind.i64.wrap ((i:Int)+1)=((i+1:Nat):Int):=by rw[wrap64 ⟨by omega,by omega⟩];rfl
    obtain⟨p,hp⟩ : ∃p,ctx[i]?=some p:=⟨ctx[i],by simp[hlt]⟩
    have ha:=cntP_at hp
    have hv:=ctxVars_len (ctx.take i) v0
    have hs:ctxVars v0 (ctx.take (i+1))=varsS (ctxVars v0 (ctx.take i)) p.2:=by rw[take_succ hp,ctxVars_app]
    obtain⟨pn,⟨pk,pt,pl⟩⟩:=p
    have ha:cntP (ctx.take i)+cntT (.mk pk pt pl)<=cntP ctx:=ha
    have hget:(pdsR ctx)[i]?=some [.str pn,.int .i64 pk,.str pt,.lst 30 (tysR pl) .no]:=by rw[pdsR_get,hp];rfl
    simp only[u_C l81_1.eq_1,e_dregion d81_0,u_L s81_0.eq_1,u_T g81_0.eq_1,rn,pevA,seval,f0,f2,f3,f4,kN,n2,n2.symm,n3,n3.symm,n32,n32.symm,pdsR_len,c1,hget]
    refine (vars_ok (.mk pk pt pl) (ctxVars v0 (ctx.take i)) 9 .no (fun _=>rfl) (by unfold most;omega)).use ?_
    simp only[e_dregion d81_0,u_L s81_0.eq_1,u_T g81_0.eq_1,rn,pevA,seval,f0,f2,f3,f4,kN,n2,n2.symm,n3,n3.symm,n32,n32.symm,hk3,w]
    refine⟨i+1,by show ctx.length-(i+1)<ctx.length-i;omega,f0,f2,f3,rfl,hlt,?_⟩
    rw[hs]
   ·have hie:i=ctx.length:=by omega
    subst hie
    have c1:decide ((ctx.length:Int)<(ctx.length:Int))=false:=by simp
    simp only[u_C l81_1.eq_1,e_dregion d81_0,u_L s81_0.eq_1,u_T g81_0.eq_1,rn,pevA,seval,f0,f2,f3,f4,kN,n2,n2.symm,n3,n3.symm,n32,n32.symm,pdsR_len,c1,hk2]
    rw[List.take_length]
    exact PC.fin (.refl _) (by repeat (first|exact AH.le_refl _|refine le_set ?_ (AH.set_none.2 ⟨n2,hb2⟩)|refine le_del ?_ (AH.set_none.2 ⟨n2,hb2⟩)|refine le_set ?_ (AH.set_none.2 ⟨n3,hb3⟩)|refine le_del ?_ (AH.set_none.2 ⟨n3,hb3⟩))) (hK _)
end
end Go.Proofs.YtinbjdkibmkgbaaGreatDoor.p
namespace Go.Proofs.YtinbjdkibmkgbaaGreatDoor.p
open Go.Proofs Go Go.Cn code
set_option linter.unusedSimpArgs false
set_option linter.unusedVariables false
inductive Ex where
 |mk (k p:Int)(n:Nm)(v:Int)(l:List Ex)(a:List (Nm×List Nm×Ex×Int))(b:List (Nm×Bool×Sch×Ex×Int))
abbrev Al:=Nm×List Nm×Ex×Int
abbrev Bi:=Nm×Bool×Sch×Ex×Int
mutual
def exR:Ex->List AV
 |.mk k p n v l a b=>[.int .i64 k,.int .i64 p,.str n,.int .i64 v,.lst 171 (exsR l) .no,.lst 186 (alsR a) .no,.lst 175 (bisR b) .no]
def exsR:List Ex->List (List AV)
 |[]=>[]
 |e::l=>exR e::exsR l
def alsR:List (Nm×List Nm×Ex×Int)->List (List AV)
 |[]=>[]
 |(c,vs,e,p)::l=>(.str c::.lst 9 (strC vs) .no::(exR e++[.int .i64 p]))::alsR l
def bisR:List (Nm×Bool×Sch×Ex×Int)->List (List AV)
 |[]=>[]
 |(n,g,s,e,p)::l=>(.str n::.bool g::(schR s++(exR e++[.int .i64 p])))::bisR l
end
def alR (a:Al):List AV:=.str a.1::.lst 9 (strC a.2.1) .no::(exR a.2.2.1++[.int .i64 a.2.2.2])
def biR (b:Bi):List AV:=.str b.1::.bool b.2.1::(schR b.2.2.1++(exR b.2.2.2.1++[.int .i64 b.2.2.2.2]))
theorem alsR_eq (l:List Al):alsR l=l.map alR:=by
 induction l with
 |nil=>rfl
 |cons a l ih=>obtain⟨c,vs,e,p⟩:=a;simp only[alsR,List.map_cons,ih,alR]
theorem bisR_eq (l:List Bi):bisR l=l.map biR:=by
 induction l with
 |nil=>rfl
 |cons a l ih=>obtain⟨c,g,s,e,p⟩:=a;simp only[bisR,List.map_cons,ih,biR]
theorem alsR_len (l:List Al):(alsR l).length=l.length:=by rw[alsR_eq,List.length_map]
theorem bisR_len (l:List Bi):(bisR l).length=l.length:=by rw[bisR_eq,List.length_map]
structure Sg where
 name:Nm
 pos:Int
 s:Sch
def sgR (g:Sg):List AV:=.str g.name::.int .i64 g.pos::schR g.s
def sgsR (l:List Sg):List (List AV):=l.map sgR
theorem sgsR_len (l:List Sg):(sgsR l).length=l.length:=by rw[sgsR,List.length_map]
def zeroX:Ex:=.mk 0 0 [] 0 [] [] []
def zeroSch:Sch:=⟨[],[],.mk 0 [] []⟩
def lambdasS (l:List Nm)(b:Ex)(pos:Int):Ex:=l.foldr (fun x b=>.mk 6 pos x 0 [b] [] []) b
def applyS (f a:Ex)(pos:Int):Ex:=.mk 5 pos [] 0 [f,a] [] []
def Ex.pos:Ex->Int
 |.mk _ p _ _ _ _ _=>p
def findB (nm:Nm):Nat->List Bi->Option Nat
 |_,[]=>none
 |k,b::l=>if b.1=nm/\b.2.1=false then some k else findB nm (k+1) l
def signB (s:Sch):Nat->List Bi->List Bi
 |_,[]=>[]
 |0,b::l=>(b.1,true,s,b.2.2.2)::l
 |k+1,b::l=>b::signB s k l
def joinL:List Sg->List Sg->List Bi->St->List Bi×St
 |_,[],l,s=>(l,s)
 |pre,g::gs,l,s=>if fineS s then match findB g.name 0 l with
   |some k=>if pre.any fun x=>decide (x.name=g.name) then (l,amissS 102 g.pos s) else joinL (pre++[g]) gs (signB g.s k l) s
   |none=>(l,amissS 102 g.pos s)
  else (l,s)
section
variable (ts:List Tk)(e:Int)
def lowsS:Nat->List Nm->St->Option (List Nm×St)
 |0,_,_=>none
 |n+1,acc,s=>if kindS ts 1 s then lowsS n (acc++[(wordS ts e 1 s).1]) (wordS ts e 1 s).2 else some (acc,s)
def undersS:Nat->List Nm->St->Option (List Nm×St)
 |0,_,_=>none
 |n+1,acc,s=>if kindS ts 1 s || isS ts [95] s then undersS n (acc++[textS ts s]) (nextS s) else some (acc,s)
def semisS:Nat->St->Option St
 |0,_=>none
 |n+1,s=>if isS ts [59] s then semisS n (nextS s) else some s
def signS (l:List Nm)(s:St):Bool:=kindS ts 5 s&&decide (textS ts s∈l)
def beginsS (s:St):Bool:=kindS ts 1 s || kindS ts 2 s || kindS ts 3 s || kindS ts 4 s || isS ts [40] s
def namedS (s:St):Nm×Int×St:=
 if isS ts [40] s then ((wordS ts e 5 (nextS s)).1,posS ts e (nextS s),takeS ts e [41] (wordS ts e 5 (nextS s)).2)
 else ((wordS ts e 1 s).1,posS ts e s,(wordS ts e 1 s).2)
def endsS (inner:Bool)(s:St):St:=if !fineS s || isS ts [59] s || (inner&&isS ts [125] s) || (!inner&&decide (ts.length<=s.i)) then s else wrongS ts e s
def patS (n:Nat)(s:St):Option (Nm×List Nm×St):=
 if kindS ts 2 s then match undersS ts n [] (wordS ts e 2 s).2 with
  |some (l,s')=>some ((wordS ts e 2 s).1,l,s')
  |none=>none
 else if isS ts [95] s then some ([],[],nextS s)
 else some ([],[(wordS ts e 1 s).1],(wordS ts e 1 s).2)
def altEnd (s:St):St:=if !isS ts [59] s&& !isS ts [125] s then wrongS ts e s else s
mutual
def exprS:Nat->St->Option (Ex×St)
 |0,_=>none
 |n+1,s=>
  if isS ts [92] s then
   match lowsS ts e n [(wordS ts e 1 (openS ts e s)).1] (wordS ts e 1 (openS ts e s)).2 with
   |some (l,s3)=>match exprS n (takeS ts e [45,62] s3) with
    |some (b,s5)=>some (lambdasS l b (posS ts e s),shutS s5)
    |none=>none
   |none=>none
  else if isS ts [108,101,116] s then
   match defsL n [] [] (takeS ts e [123] (openS ts e s)) with
   |some (g,bs,s2)=>match exprS n (takeS ts e [105,110] (takeS ts e [125] (joinL [] g bs s2).2)) with
    |some (b,s4)=>some (.mk 7 (posS ts e s) [] 0 [b] [] (joinL [] g bs s2).1,shutS s4)
    |none=>none
   |none=>none
  else if isS ts [99,97,115,101] s then
   match exprS n (openS ts e s) with
   |some (x,s1)=>match altsS n [] (takeS ts e [123] (takeS ts e [111,102] s1)) with
    |some (l,s2)=>some (.mk 8 (posS ts e s) [] 0 [x] l [],shutS (takeS ts e [125] s2))
    |none=>none
   |none=>none
  else if isS ts [105,102] s then
   match exprS n (openS ts e s) with
   |some (x,s1)=>match exprS n (takeS ts e [116,104,101,110] s1) with
    |some (a,s2)=>match exprS n (takeS ts e [101,108,115,101] s2) with
     |some (b,s3)=>some (.mk 8 (posS ts e s) [] 0 [x] [([84,114,117,101],[],a,posS ts e s),([70,97,108,115,101],[],b,posS ts e s)] [],shutS s3)
     |none=>none
    |none=>none
   |none=>none
  else match sumS n s with
   |some (a,s1)=>if signS ts [[61,61],[47,61],[60],[60,61],[62],[62,61]] s1 then twoS n a 0 s1 else some (a,s1)
   |none=>none
def twoS:Nat->Ex->Nat->St->Option (Ex×St)
 |0,_,_,_=>none
 |n+1,a,what,s=>
  match (if what=0 then sumS n (wordS ts e 5 s).2 else if what=1 then productS n (wordS ts e 5 s).2 else appS n (wordS ts e 5 s).2) with
  |some (b,s2)=>some (applyS (applyS (.mk 1 (posS ts e s) (wordS ts e 5 s).1 0 [] [] []) a (posS ts e s)) b (posS ts e s),s2)
  |none=>none
def sumS:Nat->St->Option (Ex×St)
 |0,_=>none
 |n+1,s=>match productS n s with
  |some (a,s1)=>sumsS n a s1
  |none=>none
def sumsS:Nat->Ex->St->Option (Ex×St)
 |0,_,_=>none
 |n+1,a,s=>if signS ts [[43],[45]] s then match twoS n a 1 s with
   |some (b,s1)=>sumsS n b s1
   |none=>none
  else some (a,s)
def productS:Nat->St->Option (Ex×St)
 |0,_=>none
 |n+1,s=>match appS n s with
  |some (a,s1)=>productsS n a s1
  |none=>none
def productsS:Nat->Ex->St->Option (Ex×St)
 |0,_,_=>none
 |n+1,a,s=>if signS ts [[42]] s then match twoS n a 2 s with
   |some (b,s1)=>productsS n b s1
   |none=>none
  else some (a,s)
def appS:Nat->St->Option (Ex×St)
 |0,_=>none
 |n+1,s=>match oneS n s with
  |some (a,s1)=>appsS n a s1
  |none=>none
def appsS:Nat->Ex->St->Option (Ex×St)
 |0,_,_=>none
 |n+1,a,s=>if beginsS ts s then match oneS n s with
   |some (b,s1)=>appsS n (applyS a b a.pos) s1
   |none=>none
  else some (a,s)
def oneS:Nat->St->Option (Ex×St)
 |0,_=>none
 |n+1,s=>if beginsS ts s then match ts[s.i]? with
   |some t=>if t.kind=1 then some (.mk 1 t.pos t.text 0 [] [] [],nextS s)
    else if t.kind=2 then some (.mk 2 t.pos t.text 0 [] [] [],nextS s)
    else if t.kind=3 then some (.mk 3 t.pos [] t.n [] [] [],nextS s)
    else if t.kind=4 then some (.mk 4 t.pos [] t.n [] [] [],nextS s)
    else match (match ts[s.i+1]? with|some u=>if u.kind=5 then some u else none|none=>none) with
     |some u=>some (.mk 1 u.pos u.text 0 [] [] [],takeS ts e [41] {s with i:=s.i+2})
     |none=>match exprS n (openS ts e s) with
      |some (x,s1)=>some (x,shutS (takeS ts e [41] s1))
      |none=>none
   |none=>none
  else some (zeroX,wrongS ts e s)
def altsS:Nat->List (Nm×List Nm×Ex×Int)->St->Option (List (Nm×List Nm×Ex×Int)×St)
 |0,_,_=>none
 |n+1,acc,s=>if fineS s then match semisS ts n s with
   |some s1=>if isS ts [125] s1 then some (acc,s1) else match patS ts e n s1 with
    |some (c,vs,s2)=>match exprS n (takeS ts e [45,62] s2) with
     |some (b,s3)=>altsS n (acc++[(c,vs,b,posS ts e s1)]) (altEnd ts e s3)
     |none=>none
    |none=>none
   |none=>none
  else some (acc,s)
def defS:Nat->List Sg->List (Nm×Bool×Sch×Ex×Int)->St->Option (List Sg×List (Nm×Bool×Sch×Ex×Int)×St)
 |0,_,_,_=>none
 |n+1,g,bs,s=>if isS ts [58,58] (namedS ts e s).2.2 then match schemeS ts e n (nextS (namedS ts e s).2.2) with
   |some (sc,s2)=>some (g++[⟨(namedS ts e s).1,(namedS ts e s).2.1,sc⟩],bs,s2)
   |none=>none
  else match lowsS ts e n [] (namedS ts e s).2.2 with
   |some (l,s2)=>match exprS n (takeS ts e [61] s2) with
    |some (b,s3)=>some (g,bs++[((namedS ts e s).1,false,zeroSch,lambdasS l b (namedS ts e s).2.1,(namedS ts e s).2.1)],s3)
    |none=>none
   |none=>none
def defsL:Nat->List Sg->List (Nm×Bool×Sch×Ex×Int)->St->Option (List Sg×List (Nm×Bool×Sch×Ex×Int)×St)
 |0,_,_,_=>none
 |n+1,g,bs,s=>if fineS s then match semisS ts n s with
   |some s1=>if isS ts [125] s1 then some (g,bs,s1) else match defS n g bs s1 with
    |some (g2,bs2,s2)=>defsL n g2 bs2 (endsS ts e true s2)
    |none=>none
   |none=>none
  else some (g,bs,s)
end
end
end Go.Proofs.YtinbjdkibmkgbaaGreatDoor.p
namespace Go.Proofs.YtinbjdkibmkgbaaGreatDoor.p
open Go.Proofs Go Go.Cn code
set_option linter.unusedSimpArgs false
set_option linter.unusedVariables false
def lamR (pos:Int)(c:List AV):List Nm->List AV
 |[]=>c
 |x::l=>[.int .i64 6,.int .i64 pos,.str x,.int .i64 0,.lst 171 [lamR pos c l] .no,.lst 0 [] .nil,.lst 0 [] .nil]
theorem lam_wk (b:Ex)(pos:Int):∀l,WkL (lamR pos (exR b) l) (exR (lambdasS l b pos))
 |[]=>.refl _
 |x::l=>⟨.refl _,.refl _,.refl _,.refl _,.lstL ⟨lam_wk b pos l,trivial⟩,.nil _ _ _,.nil _ _ _,trivial⟩
theorem lam_7 (pos:Int)(c1 c2 c3 c4 c5 c6 c7:AV)(hc:(oneA c1&&(oneA c2&&(oneA c3&&(oneA c4&&(oneA c5&&(oneA c6&&oneA c7))))))=true)(l:List Nm):∃d1 d2 d3 d4 d5 d6 d7,lamR pos [c1,c2,c3,c4,c5,c6,c7] l=[d1,d2,d3,d4,d5,d6,d7]/\(oneA d1&&(oneA d2&&(oneA d3&&(oneA d4&&(oneA d5&&(oneA d6&&oneA d7))))))=true:=by
 cases l with
 |nil=>exact⟨_,_,_,_,_,_,_,rfl,hc⟩
 |cons x l=>exact⟨_,_,_,_,_,_,_,rfl,rfl⟩
theorem lambdas_ok (E:TypeId)(l:List Nm)(tag:Tag)(b:Ex)(pos:Int)(hl:l.length<=most):Pure T 83 [.lst E (strC l) tag,.agg (exR b),.int .i64 pos] (.agg (exR (lambdasS l b pos))):=by
 intro K h
 have hw:=lam_wk b pos l
 refine ACall.ret t83 fun hK=>?_
 obtain⟨xk,xp,xn,xv,xl,xa,xb⟩:=b
 unfold most at hl
 have w0:IntKind.i64.wrap ((l.length:Int)-1)=(l.length:Int)-1:=wrap64 ⟨by omega,by omega⟩
 simp only[u_C c83.eq_1,rn,pevA,seval,exR,strC_len]
 intro b2 hb2 hk2
 simp only[rn,pevA,seval]
 intro b3 hb3 hk3
 obtain⟨n32,hb3⟩:=AH.set_none.1 hb3
 simp only[rn,pevA,seval,strC_len,w0]
 rw[exR] at hw
 refine aloop (α:=Nat) (fun k fr h1=>fr 0=.lst E (strC l) tag/\fr 2=.int .i64 pos/\fr 4=.ptr b2 0/\fr 6=.ptr b3 0/\fr 7=.int .i64 ((k:Int)-1)/\k<=l.length/\
  h1=(h.set b2 (.cells (lamR pos [AV.int .i64 xk,.int .i64 xp,.str xn,.int .i64 xv,.lst 171 (exsR xl) .no,.lst 186 (alsR xa) .no,.lst 175 (bisR xb) .no] (l.drop k)) 171)).set b3 (.cells [.int .i64 0,.int .i64 0,.str [],.int .i64 0,.lst 0 [] .nil,.lst 0 [] .nil,.lst 0 [] .nil] 171)) (fun k=>k) l.length
  ⟨rfl,rfl,rfl,rfl,rfl,Nat.le_refl _,by rw[List.drop_length];rfl⟩ ?_
 rintro k fr h1 ⟨f0,f2,f4,f6,f7,hk,rfl⟩
 have hle:∀(X Y:AO),h.le (((h.set b2 X).set b3 Y).del b3):=fun X Y=>le_del (le_set (le_set (AH.le_refl _) hb2) hb3) hb3
 obtain⟨d1,d2,d3,d4,d5,d6,d7,hd,ho⟩:=lam_7 pos (AV.int .i64 xk) (.int .i64 xp) (.str xn) (.int .i64 xv) (.lst 171 (exsR xl) .no) (.lst 186 (alsR xa) .no) (.lst 175 (bisR xb) .no) rfl (l.drop k)
 cases k with
 |zero=>
  have c1:decide ((0:Int)<=((0:Nat):Int)-1)=false:=by decide
  rw[List.drop_zero] at hd ⊢
  rw[hd]
  rw[hd] at hw
  simp only[u_C l83_1.eq_1,rn,pevA,seval,f0,f2,f4,f6,f7,c1,AH.set_ne,n32,n32.symm,hk3]
  refine⟨ho,.aggL hw,le_del (le_set (AH.le_refl _) hb2) hb3⟩
 |succ j=>
  have hlt:j<l.length:=hk
  have e7:((j+1:Nat):Int)-1=(j:Int):=by omega
  rw[e7] at f7
  have c1:decide ((0:Int)<=(j:Int))=true:=decide_eq_true (by omega)
  have w:IntKind.i64.wrap ((j:Int)-1)=(j:Int)-1:=wrap64 ⟨by omega,by omega⟩
  have hget:(strC l)[j]?=some [.str l[j]]:=by rw[strC_get,List.getElem?_eq_getElem hlt];rfl
  rw[hd]
  simp only[u_C l83_1.eq_1,e_dregion d83_0,u_L s83_0.eq_1,u_T g83_0.eq_1,rn,pevA,seval,f0,f2,f4,f6,f7,c1,hget,AH.set_ne,set_in1,n32,n32.symm,hk2,w]
  refine⟨j,Nat.lt_succ_self j,f0,f2,f4,f6,rfl,by omega,?_⟩
  rw[List.drop_eq_getElem_cons hlt,lamR,hd]
theorem apply_ok (f a:Ex)(pos:Int):Pure T 115 [.agg (exR f),.agg (exR a),.int .i64 pos] (.agg (exR (applyS f a pos))):=by
 intro K h
 refine ACall.ret t115 fun hK=>?_
 obtain⟨fk,fp,fn,fv,fl,fa,fb⟩:=f
 obtain⟨ak,ap,an,av,al,aa,ab⟩:=a
 simp only[u_C c115.eq_1,rn,pevA,seval,exR]
 intro b2 hb2 hk2
 simp only[rn,pevA,seval,hk2]
 exact⟨.aggL ⟨.refl _,.refl _,.refl _,.refl _,.refl _,.nil _ _ _,.nil _ _ _,trivial⟩,le_del (AH.le_refl _) hb2⟩
section
variable {ts:List Tk}{e:Int}(hts:ts.length<=1000000)
theorem sign_ok (E:TypeId)(l:List Nm)(tag:Tag)(s:St):PC ts e 104 [.lst E (strC l) tag] (.bool (signS ts l s)) s s:=by
 refine PC.intro t104 fun K h b hk hK=>?_
 unfold signS
 simp only[u_C c104.eq_1,e_dregion d104_0,u_L s104_0.eq_1,u_T g104_0.eq_1,rn,pevA,seval]
 refine (kind_ok 5 s).use (AH.set_same _ _ _) hk ?_
 cases c1:kindS ts 5 s with
 |false=>
  simp only[e_dregion d104_0,u_L s104_0.eq_1,u_T g104_0.eq_1,rn,pevA,seval,Bool.false_and]
  exact PC.fin (.refl _) (AH.le_refl _) (hK _)
 |true=>
  have hlt:=kindS_lt c1
  unfold textS
  rw[get2 hlt]
  simp only[e_dregion d104_0,u_L s104_0.eq_1,u_T g104_0.eq_1,rn,pevA,seval,parO,tkC_get hlt]
  refine (has_ok E l tag _).use ?_
  simp only[e_dregion d104_0,u_L s104_0.eq_1,u_T g104_0.eq_1,rn,pevA,seval]
  exact PC.fin (.refl _) (AH.le_refl _) (hK _)
theorem begins_ok (s:St):PC ts e 119 [] (.bool (beginsS ts s)) s s:=by
 refine PC.intro t119 fun K h b hk hK=>?_
 unfold beginsS
 simp only[u_C c119.eq_1,rn,pevA,seval]
 refine (kind_ok 1 s).use (AH.set_same _ _ _) hk ?_
 cases h1:kindS ts 1 s with
 |true=>
  simp only[rn,pevA,seval,Bool.true_or]
  exact PC.fin (.refl _) (AH.le_refl _) (hK _)
 |false=>
  simp only[rn,pevA,seval]
  refine (kind_ok 2 s).use (AH.set_same _ _ _) hk ?_
  cases h2:kindS ts 2 s with
  |true=>
   simp only[rn,pevA,seval,Bool.true_or,Bool.false_or]
   exact PC.fin (.refl _) (AH.le_refl _) (hK _)
  |false=>
   simp only[rn,pevA,seval]
   refine (kind_ok 3 s).use (AH.set_same _ _ _) hk ?_
   cases h3:kindS ts 3 s with
   |true=>
    simp only[rn,pevA,seval,Bool.true_or,Bool.false_or]
    exact PC.fin (.refl _) (AH.le_refl _) (hK _)
   |false=>
    simp only[rn,pevA,seval]
    refine (kind_ok 4 s).use (AH.set_same _ _ _) hk ?_
    cases h4:kindS ts 4 s with
    |true=>
     simp only[rn,pevA,seval,Bool.true_or,Bool.false_or]
     exact PC.fin (.refl _) (AH.le_refl _) (hK _)
    |false=>
     simp only[rn,pevA,seval,Bool.false_or]
     refine (is_ok [40] s).use (AH.set_same _ _ _) hk ?_
     simp only[rn,pevA,seval]
     exact PC.fin (.refl _) (AH.le_refl _) (hK _)
include hts in
theorem named_ok (s:St):PC ts e 80 [] (.tuple [.str (namedS ts e s).1,.int .i64 (namedS ts e s).2.1]) s (namedS ts e s).2.2:=by
 refine PC.intro t80 fun K h b hk hK=>?_
 unfold namedS
 simp only[u_C c80.eq_1,rn,pevA,seval]
 refine (is_ok [40] s).use (AH.set_same _ _ _) hk ?_
 cases c1:isS ts [40] s with
 |true=>
  have hlt:=isS_lt c1
  simp only[rn,pevA,seval,parO,w1 (Nat.lt_of_lt_of_le hlt hts),hk]
  refine (pos_ok (nextS s)).use (AH.set_same _ _ _) hk ?_
  simp only[rn,pevA,seval]
  refine (word_ok hts 5 (nextS s)).use (AH.set_same _ _ _) hk ?_
  simp only[rn,pevA,seval]
  refine (take_ok hts [41] _).use (AH.set_same _ _ _) hk ?_
  simp only[rn,pevA,seval]
  exact PC.fin (.refl _) (AH.le_refl _) (hK _)
 |false=>
  simp only[rn,pevA,seval]
  refine (pos_ok s).use (AH.set_same _ _ _) hk ?_
  simp only[rn,pevA,seval]
  refine (word_ok hts 1 s).use (AH.set_same _ _ _) hk ?_
  simp only[rn,pevA,seval]
  exact PC.fin (.refl _) (AH.le_refl _) (hK _)
theorem named_i {s:St}(hs:s.i<=ts.length):(namedS ts e s).2.2.i<=ts.length:=by
 unfold namedS
 split
 ·rename_i c
  exact takeS_i (wordS_i (show (nextS s).i<=_ from isS_lt c) _) _
 ·exact wordS_i hs 1
theorem ends_ok (inner:Bool)(s:St):PC ts e 61 [.bool inner] (.tuple []) s (endsS ts e inner s):=by
 refine PC.intro t61 fun K h b hk hK=>?_
 unfold endsS
 simp only[u_C c61.eq_1,e_dregion d61_0,u_L s61_0.eq_1,u_T g61_0.eq_1,rn,pevA,seval]
 refine (fine_ok s).use (AH.set_same _ _ _) hk ?_
 cases c1:fineS s with
 |false=>
  simp only[e_dregion d61_0,u_L s61_0.eq_1,u_T g61_0.eq_1,rn,pevA,seval,Bool.true_or]
  exact PC.fin (.refl _) (AH.le_refl _) (hK _)
 |true=>
  simp only[e_dregion d61_0,u_L s61_0.eq_1,u_T g61_0.eq_1,rn,pevA,seval]
  refine (is_ok [59] s).use (AH.set_same _ _ _) hk ?_
  cases c2:isS ts [59] s with
  |true=>
   simp only[e_dregion d61_0,u_L s61_0.eq_1,u_T g61_0.eq_1,rn,pevA,seval,Bool.true_or,Bool.or_true]
   exact PC.fin (.refl _) (AH.le_refl _) (hK _)
  |false=>
   cases inner with
   |true=>
    simp only[e_dregion d61_0,u_L s61_0.eq_1,u_T g61_0.eq_1,rn,pevA,seval]
    refine (is_ok [125] s).use (AH.set_same _ _ _) hk ?_
    cases c3:isS ts [125] s with
    |true=>
     simp only[e_dregion d61_0,u_L s61_0.eq_1,u_T g61_0.eq_1,rn,pevA,seval,Bool.true_or,Bool.or_true]
     exact PC.fin (.refl _) (AH.le_refl _) (hK _)
    |false=>
     simp only[e_dregion d61_0,u_L s61_0.eq_1,u_T g61_0.eq_1,rn,pevA,seval,Bool.or_false,Bool.false_and,Bool.false_eq_true]
     refine (wrong_ok s).use (AH.set_same _ _ _) hk ?_
     simp only[rn,pevA,seval]
     exact PC.fin (.refl _) (AH.le_refl _) (hK _)
   |false=>
    by_cases hlt:ts.length<=s.i
    ·have c3:decide ((ts.length:Int)<=(s.i:Int))=true:=decide_eq_true (by omega)
     simp only[e_dregion d61_0,u_L s61_0.eq_1,u_T g61_0.eq_1,rn,pevA,seval,parO,tkC_len,c3,hlt,Bool.true_or,Bool.or_true]
     exact PC.fin (.refl _) (AH.le_refl _) (hK _)
    ·have c3:decide ((ts.length:Int)<=(s.i:Int))=false:=decide_eq_false (by omega)
     simp only[e_dregion d61_0,u_L s61_0.eq_1,u_T g61_0.eq_1,rn,pevA,seval,parO,tkC_len,c3,hlt,Bool.or_false,Bool.false_and,Bool.false_eq_true]
     refine (wrong_ok s).use (AH.set_same _ _ _) hk ?_
     simp only[rn,pevA,seval]
     exact PC.fin (.refl _) (AH.le_refl _) (hK _)
theorem ends_i (inner:Bool){s:St}(hs:s.i<=ts.length):(endsS ts e inner s).i<=ts.length:=by
 unfold endsS
 split
 ·exact hs
 ·rw[wrongS_i];exact hs
end
end Go.Proofs.YtinbjdkibmkgbaaGreatDoor.p
namespace Go.Proofs.YtinbjdkibmkgbaaGreatDoor.p
open Go.Proofs Go Go.Cn code
set_option linter.unusedSimpArgs false
set_option linter.unusedVariables false
section
variable (ts:List Tk)(e:Int)
structure Mv (s s':St):Prop where
 i:s.i<=s'.i
 f:fineS s'=true->fineS s=true
 le:s.i<=ts.length->s'.i<=ts.length
structure Mvs (s s':St):Prop where
 m:Mv ts s s'
 lt:fineS s'=true->s.i<s'.i
end
section
variable {ts:List Tk}{e:Int}{s s1 s':St}
theorem Mv.refl (s:St):Mv ts s s:=⟨Nat.le_refl _,id,id⟩
theorem Mv.trans (h:Mv ts s s1)(g:Mv ts s1 s'):Mv ts s s':=⟨Nat.le_trans h.i g.i,fun x=>h.f (g.f x),fun x=>g.le (h.le x)⟩
theorem Mvs.fst (h:Mvs ts s s1)(g:Mv ts s1 s'):Mvs ts s s':=⟨h.m.trans g,fun x=>Nat.lt_of_lt_of_le (h.lt (g.f x)) g.i⟩
theorem Mv.wrong (s:St):Mv ts s (wrongS ts e s):=⟨by rw[wrongS_i];exact Nat.le_refl _,fun h=>by (rw[wrong_bad] at h;cases h),by rw[wrongS_i];exact id⟩
theorem Mvs.wrong (s:St):Mvs ts s (wrongS ts e s):=⟨.wrong s,fun h=>by rw[wrong_bad] at h;cases h⟩
theorem Mv.amiss (c p:Int)(hc:c≠0)(s:St):Mv ts s (amissS c p s):=⟨by rw[amissS_i];exact Nat.le_refl _,fun h=>by (rw[amiss_bad _ _ hc] at h;cases h),by rw[amissS_i];exact id⟩
theorem Mvs.next (hf:fineS s=true)(h:s.i<ts.length):Mvs ts s (nextS s):=⟨⟨Nat.le_succ _,fun _=>hf,fun _=>h⟩,fun _=>Nat.lt_succ_self _⟩
theorem Mvs.is {str:Nm}(h:isS ts str s=true):Mvs ts s (nextS s):=.next (isS_fine h) (isS_lt h)
theorem Mvs.kd {k:Int}(h:kindS ts k s=true):Mvs ts s (nextS s):=.next (kindS_fine h) (kindS_lt h)
theorem Mvs.take (str:Nm)(s:St):Mvs ts s (takeS ts e str s):=by
 rcases take_cases (ts:=ts) (e:=e) str s with⟨h1,h2⟩|⟨_,h2⟩
 ·rw[h2];exact .is h1
 ·rw[h2];exact .wrong s
theorem Mvs.word (k:Int)(s:St):Mvs ts s (wordS ts e k s).2:=by
 rcases word_cases (ts:=ts) (e:=e) k s with⟨h1,h2⟩|⟨_,h2⟩
 ·rw[h2];exact .kd h1
 ·rw[h2];exact .wrong s
theorem Mvs.opn (hf:fineS s=true)(h:s.i<ts.length):Mvs ts s (openS ts e s):=by
 rcases open_cases (ts:=ts) (e:=e) s with⟨h1,h2⟩|⟨h1,h2⟩
 ·exact⟨⟨by omega,fun _=>hf,fun _=>by omega⟩,fun _=>by omega⟩
 ·exact⟨⟨by omega,fun x=>by (rw[h2] at x;cases x),fun _=>by omega⟩,fun x=>by rw[h2] at x;cases x⟩
theorem Mv.shut (s:St):Mv ts s (shutS s):=⟨Nat.le_refl _,id,id⟩
theorem Mv.ends (b:Bool)(s:St):Mv ts s (endsS ts e b s):=by
 unfold endsS;split
 ·exact .refl s
 ·exact .wrong s
theorem Mv.altEnd (s:St):Mv ts s (altEnd ts e s):=by
 unfold p.altEnd;split
 ·exact .wrong s
 ·exact .refl s
theorem Mvs.named (s:St):Mvs ts s (namedS ts e s).2.2:=by
 unfold namedS;split
 ·rename_i c
  exact (Mvs.is c).fst ((Mvs.word 5 _).m.trans (Mvs.take _ _).m)
 ·exact .word 1 s
theorem Mv.join:∀(gs pre:List Sg)(l:List Bi)(s:St),Mv ts s (joinL pre gs l s).2
 |[],pre,l,s=>by rw[joinL];exact .refl s
 |g::gs,pre,l,s=>by
  rw[joinL]
  split
  ·split
   ·split
    ·exact .amiss _ _ (by decide) _
    ·exact Mv.join gs _ _ _
   ·exact .amiss _ _ (by decide) _
  ·exact .refl s
theorem lows_mv:∀(n:Nat)(acc:List Nm)(s:St)(l:List Nm)(s':St),lowsS ts e n acc s=some (l,s')->Mv ts s s'
 |0,acc,s,l,s',h=>by rw[lowsS] at h;cases h
 |n+1,acc,s,l,s',h=>by
  rw[lowsS] at h
  split at h
  ·exact (Mvs.word 1 s).m.trans (lows_mv n _ _ _ _ h)
  ·cases h;exact .refl _
theorem unders_mv:∀(n:Nat)(acc:List Nm)(s:St)(l:List Nm)(s':St),undersS ts n acc s=some (l,s')->Mv ts s s'
 |0,acc,s,l,s',h=>by rw[undersS] at h;cases h
 |n+1,acc,s,l,s',h=>by
  rw[undersS] at h
  split at h
  ·rename_i c
   refine Mv.trans ?_ (unders_mv n _ _ _ _ h)
   rcases Bool.or_eq_true _ _▸c with c|c
   ·exact (Mvs.kd c).m
   ·exact (Mvs.is c).m
  ·cases h;exact .refl _
theorem semis_mv:∀(n:Nat)(s s':St),semisS ts n s=some s'->Mv ts s s'/\isS ts [59] s'=false
 |0,s,s',h=>by rw[semisS] at h;cases h
 |n+1,s,s',h=>by
  rw[semisS] at h
  split at h
  ·rename_i c
   have:=semis_mv n _ _ h
   exact⟨(Mvs.is c).m.trans this.1,this.2⟩
  ·rename_i c
   cases h;exact⟨.refl _,by simpa using c⟩
theorem pat_mv {n:Nat}{s s':St}{c:Nm}{l:List Nm}(h:patS ts e n s=some (c,l,s')):Mvs ts s s':=by
 unfold patS at h
 split at h
 ·split at h
  ·rename_i a b h1
   cases h
   exact (Mvs.word 2 s).fst (unders_mv _ _ _ _ _ h1)
  ·cases h
 ·split at h
  ·rename_i c
   cases h;exact .is c
  ·cases h;exact .word 1 s
theorem preds_mv {pl:Bool}(hts:ts.length<=1000000){n:Nat}(hn:n+1<=most){s s':St}{l:List Pd}(h:predsS ts e pl n s=some (l,s'))(hs:s.i<=ts.length):Mv ts s s':=
 ⟨(preds_prog h).i,fun x=>((preds_prog h).f x).1,fun _=>(preds_ok hts hn _ _ _ _ hs h).2⟩
theorem begins_fine {s:St}(h:beginsS ts s=true):fineS s=true/\s.i<ts.length:=by
 unfold beginsS at h
 simp only[Bool.or_eq_true] at h
 rcases h with (((h|h)|h)|h)|h
 ·exact⟨kindS_fine h,kindS_lt h⟩
 ·exact⟨kindS_fine h,kindS_lt h⟩
 ·exact⟨kindS_fine h,kindS_lt h⟩
 ·exact⟨kindS_fine h,kindS_lt h⟩
 ·exact⟨isS_fine h,isS_lt h⟩
end
end Go.Proofs.YtinbjdkibmkgbaaGreatDoor.p
namespace Go.Proofs.YtinbjdkibmkgbaaGreatDoor.p
open Go.Proofs Go Go.Cn code
set_option linter.unusedSimpArgs false
set_option linter.unusedVariables false
section
variable {ts:List Tk}{e:Int}(hts:ts.length<=1000000)
include hts in
theorem scheme_mv {n:Nat}(hn:n+1<=most){s s':St}{sc:Sch}(h:schemeS ts e n s=some (sc,s')):Mv ts s s':=by
 have h0:=h
 unfold schemeS at h
 split at h
 ·rename_i ctx s1 h1
  split at h
  ·rename_i t s2 h2
   cases h
   have p1:=preds_prog h1
   have p2:=(types_prog n).2.2.2 _ _ _ h2
   exact⟨Nat.le_trans p1.i p2.i,fun x=>(p1.f (p2.f x).1).1,fun hs=>(scheme_ok hts hn _ _ _ hs h0).2⟩
  ·cases h
 ·cases h
structure MvAll (ts:List Tk)(e:Int)(n:Nat):Prop where
 expr:∀s x s',exprS ts e n s=some (x,s')->Mvs ts s s'
 two:∀a w s x s',twoS ts e n a w s=some (x,s')->Mvs ts s s'
 sum:∀s x s',sumS ts e n s=some (x,s')->Mvs ts s s'
 sums:∀a s x s',sumsS ts e n a s=some (x,s')->Mv ts s s'
 product:∀s x s',productS ts e n s=some (x,s')->Mvs ts s s'
 products:∀a s x s',productsS ts e n a s=some (x,s')->Mv ts s s'
 app:∀s x s',appS ts e n s=some (x,s')->Mvs ts s s'
 apps:∀a s x s',appsS ts e n a s=some (x,s')->Mv ts s s'
 one:∀s x s',oneS ts e n s=some (x,s')->Mvs ts s s'
 alts:∀acc s l s',altsS ts e n acc s=some (l,s')->Mv ts s s'
 df:∀g bs s g' bs' s',defS ts e n g bs s=some (g',bs',s')->Mvs ts s s'
 defs:∀g bs s g' bs' s',defsL ts e n g bs s=some (g',bs',s')->Mv ts s s'
include hts in
theorem ex_mv:∀n:Nat,n<=most->MvAll ts e n
 |0,_=>⟨fun s x s' h=>by (rw[exprS] at h;cases h),fun a w s x s' h=>by (rw[twoS] at h;cases h),fun s x s' h=>by (rw[sumS] at h;cases h),fun a s x s' h=>by (rw[sumsS] at h;cases h),
   fun s x s' h=>by (rw[productS] at h;cases h),fun a s x s' h=>by (rw[productsS] at h;cases h),fun s x s' h=>by (rw[appS] at h;cases h),fun a s x s' h=>by (rw[appsS] at h;cases h),
   fun s x s' h=>by (rw[oneS] at h;cases h),fun acc s x s' h=>by (rw[altsS] at h;cases h),fun g bs s g' bs' s' h=>by (rw[defS] at h;cases h),fun g bs s g' bs' s' h=>by (rw[defsL] at h;cases h)⟩
 |n+1,hn=>by
  have ih:=ex_mv n (by omega)
  refine⟨?_,?_,?_,?_,?_,?_,?_,?_,?_,?_,?_,?_⟩
  ·intro s x s' h
   rw[exprS] at h
   split at h
   ·rename_i c
    split at h
    ·rename_i l s3 h1
     split at h
     ·rename_i b s5 h2
      cases h
      exact (Mvs.opn (isS_fine c) (isS_lt c)).fst ((Mvs.word 1 _).m.trans ((lows_mv _ _ _ _ _ h1).trans ((Mvs.take _ _).m.trans ((ih.expr _ _ _ h2).m.trans (.shut _)))))
     ·cases h
    ·cases h
   ·split at h
    ·rename_i c
     split at h
     ·rename_i g bs s2 h1
      split at h
      ·rename_i b s4 h2
       cases h
       exact (Mvs.opn (isS_fine c) (isS_lt c)).fst ((Mvs.take _ _).m.trans ((ih.defs _ _ _ _ _ _ h1).trans ((Mv.join g [] bs s2).trans ((Mvs.take _ _).m.trans ((Mvs.take _ _).m.trans ((ih.expr _ _ _ h2).m.trans (.shut _)))))))
      ·cases h
     ·cases h
    ·split at h
     ·rename_i c
      split at h
      ·rename_i x1 s1 h1
       split at h
       ·rename_i l s2 h2
        cases h
        exact (Mvs.opn (isS_fine c) (isS_lt c)).fst ((ih.expr _ _ _ h1).m.trans ((Mvs.take _ _).m.trans ((Mvs.take _ _).m.trans ((ih.alts _ _ _ _ h2).trans ((Mvs.take _ _).m.trans (.shut _))))))
       ·cases h
      ·cases h
     ·split at h
      ·rename_i c
       split at h
       ·rename_i x1 s1 h1
        split at h
        ·rename_i x2 s2 h2
         split at h
         ·rename_i x3 s3 h3
          cases h
          exact (Mvs.opn (isS_fine c) (isS_lt c)).fst ((ih.expr _ _ _ h1).m.trans ((Mvs.take _ _).m.trans ((ih.expr _ _ _ h2).m.trans ((Mvs.take _ _).m.trans ((ih.expr _ _ _ h3).m.trans (.shut _))))))
         ·cases h
        ·cases h
       ·cases h
      ·split at h
       ·rename_i a s1 h1
        split at h
        ·exact (ih.sum _ _ _ h1).fst (ih.two _ _ _ _ _ h).m
        ·cases h;exact ih.sum _ _ _ h1
       ·cases h
  ·intro a w s x s' h
   rw[twoS] at h
   split at h
   ·rename_i b s2 h1
    cases h
    refine (Mvs.word (e:=e) 5 s).fst ?_
    split at h1
    ·exact (ih.sum _ _ _ h1).m
    ·split at h1
     ·exact (ih.product _ _ _ h1).m
     ·exact (ih.app _ _ _ h1).m
   ·cases h
  ·intro s x s' h
   rw[sumS] at h
   split at h
   ·rename_i a s1 h1
    exact (ih.product _ _ _ h1).fst (ih.sums _ _ _ _ h)
   ·cases h
  ·intro a s x s' h
   rw[sumsS] at h
   split at h
   ·split at h
    ·rename_i b s1 h1
     exact (ih.two _ _ _ _ _ h1).m.trans (ih.sums _ _ _ _ h)
    ·cases h
   ·cases h;exact .refl _
  ·intro s x s' h
   rw[productS] at h
   split at h
   ·rename_i a s1 h1
    exact (ih.app _ _ _ h1).fst (ih.products _ _ _ _ h)
   ·cases h
  ·intro a s x s' h
   rw[productsS] at h
   split at h
   ·split at h
    ·rename_i b s1 h1
     exact (ih.two _ _ _ _ _ h1).m.trans (ih.products _ _ _ _ h)
    ·cases h
   ·cases h;exact .refl _
  ·intro s x s' h
   rw[appS] at h
   split at h
   ·rename_i a s1 h1
    exact (ih.one _ _ _ h1).fst (ih.apps _ _ _ _ h)
   ·cases h
  ·intro a s x s' h
   rw[appsS] at h
   split at h
   ·split at h
    ·rename_i b s1 h1
     exact (ih.one _ _ _ h1).m.trans (ih.apps _ _ _ _ h)
    ·cases h
   ·cases h;exact .refl _
  ·intro s x s' h
   rw[oneS] at h
   split at h
   ·rename_i c
    have hb:=begins_fine c
    have nx:=Mvs.next hb.1 hb.2
    split at h
    ·rename_i t h0
     split at h
     ·cases h;exact nx
     ·split at h
      ·cases h;exact nx
      ·split at h
       ·cases h;exact nx
       ·split at h
        ·cases h;exact nx
        ·split at h
         ·rename_i u hu
          cases h
          have hlt:s.i+1<ts.length:=by
           cases e2:ts[s.i+1]? with
           |none=>rw[e2] at hu;cases hu
           |some v=>exact (List.getElem?_eq_some_iff.1 e2).1
          have m2:Mvs ts s {s with i:=s.i+2}:=⟨⟨by show s.i<=s.i+2;omega,fun _=>hb.1,fun _=>by show s.i+2<=_;omega⟩,fun _=>by show s.i<s.i+2;omega⟩
          exact m2.fst (Mvs.take _ _).m
         ·split at h
          ·rename_i x1 s1 h1
           cases h
           exact (Mvs.opn hb.1 hb.2).fst ((ih.expr _ _ _ h1).m.trans ((Mvs.take _ _).m.trans (.shut _)))
          ·cases h
    ·cases h
   ·cases h;exact .wrong s
  ·intro acc s l s' h
   rw[altsS] at h
   split at h
   ·split at h
    ·rename_i s1 h1
     have g1:=(semis_mv _ _ _ h1).1
     split at h
     ·cases h;exact g1
     ·split at h
      ·rename_i c vs s2 h2
       split at h
       ·rename_i b s3 h3
        exact g1.trans ((pat_mv h2).m.trans ((Mvs.take _ _).m.trans ((ih.expr _ _ _ h3).m.trans ((Mv.altEnd _).trans (ih.alts _ _ _ _ h)))))
       ·cases h
      ·cases h
    ·cases h
   ·cases h;exact .refl _
  ·intro g bs s g' bs' s' h
   rw[defS] at h
   split at h
   ·rename_i c
    split at h
    ·rename_i sc s2 h1
     cases h
     exact (Mvs.named s).fst ((Mvs.is c).m.trans (scheme_mv hts (by omega) h1))
    ·cases h
   ·split at h
    ·rename_i l s2 h1
     split at h
     ·rename_i b s3 h2
      cases h
      exact (Mvs.named s).fst ((lows_mv _ _ _ _ _ h1).trans ((Mvs.take _ _).m.trans (ih.expr _ _ _ h2).m))
     ·cases h
    ·cases h
  ·intro g bs s g' bs' s' h
   rw[defsL] at h
   split at h
   ·split at h
    ·rename_i s1 h1
     have g1:=(semis_mv _ _ _ h1).1
     split at h
     ·cases h;exact g1
     ·split at h
      ·rename_i g2 bs2 s2 h2
       exact g1.trans ((ih.df _ _ _ _ _ _ h2).m.trans ((Mv.ends _ _).trans (ih.defs _ _ _ _ _ _ h)))
      ·cases h
    ·cases h
   ·cases h;exact .refl _
end
end Go.Proofs.YtinbjdkibmkgbaaGreatDoor.p
namespace Go.Proofs.YtinbjdkibmkgbaaGreatDoor.p
open Go.Proofs Go Go.Cn code
set_option linter.unusedSimpArgs false
set_option linter.unusedVariables false
def zC:List AV:=[.int .i64 0,.int .i64 0,.str [],.int .i64 0,.lst 0 [] .nil,.lst 0 [] .nil,.lst 0 [] .nil]
section
variable (ts:List Tk)(e:Int)
def ExOK (n:Nat):Prop:=∀s x s',s.i<=ts.length->exprS ts e n s=some (x,s')->PC ts e 82 [] (.agg (exR x)) s s'
def TwoOK (n:Nat):Prop:=∀a (w:Nat) s x s',s.i<=ts.length->twoS ts e n a w s=some (x,s')->PC ts e 105 [.agg (exR a),.int .i64 (w:Nat)] (.agg (exR x)) s s'
def SumOK (n:Nat):Prop:=∀s x s',s.i<=ts.length->sumS ts e n s=some (x,s')->PC ts e 103 [] (.agg (exR x)) s s'
def ProductOK (n:Nat):Prop:=∀s x s',s.i<=ts.length->productS ts e n s=some (x,s')->PC ts e 113 [] (.agg (exR x)) s s'
def AppOK (n:Nat):Prop:=∀s x s',s.i<=ts.length->appS ts e n s=some (x,s')->PC ts e 114 [] (.agg (exR x)) s s'
def OneOK (n:Nat):Prop:=∀s x s',s.i<=ts.length->oneS ts e n s=some (x,s')->PC ts e 118 [] (.agg (exR x)) s s'
end
section
variable {ts:List Tk}{e:Int}(hts:ts.length<=1000000)
include hts in
theorem app_step {n:Nat}(hn:n+1<=most)(hO:∀m,m<=n->OneOK ts e m):AppOK ts e (n+1):=by
 intro s x s' hs hr
 rw[appS] at hr
 cases hq:oneS ts e n s with
 |none=>rw[hq] at hr;cases hr
 |some q=>
  obtain⟨a0,s1⟩:=q
  rw[hq] at hr
  simp only at hr
  have hi1:=((ex_mv hts _ (by omega)).one _ _ _ hq).m.le hs
  have hc:=hO n (Nat.le_refl _) _ _ _ hs hq
  obtain⟨ak,ap,an,av,al,aa,ab⟩:=a0
  refine PC.intro t114 fun K h b hk hK=>?_
  simp only[u_C c114.eq_1,rn,pevA,seval]
  intro b2 hb2 hk2
  obtain⟨n2,hb2⟩:=AH.set_none.1 hb2
  simp only[rn,pevA,seval]
  refine hc.use (by simp only[kG,kN,n2,n2.symm]<;>rfl) hk ?_
  simp only[rn,pevA,seval,kN,n2,n2.symm,exR]
  intro b3 hb3 hk3
  obtain⟨n32,n3,hb3⟩:=new3.1 hb3
  simp only[rn,pevA,seval,kN,n2,n2.symm,n3,n3.symm,n32,n32.symm,hk3]
  refine aloop (α:=Nat×Ex×St) (fun y fr h1=>fr 0=.ptr b 0/\fr 2=.ptr b2 0/\fr 3=.ptr b3 0/\y.2.2.i<=ts.length/\y.1<=n/\appsS ts e y.1 y.2.1 y.2.2=some (x,s')/\
   h1=((h.set b (parO ts e y.2.2)).set b2 (.cells zC 171)).set b3 (.cells (exR y.2.1) 171)) (fun y=>y.1) (n,.mk ak ap an av al aa ab,s1)
   ⟨rfl,rfl,rfl,hi1,Nat.le_refl _,hr,rfl⟩ ?_
  clear hr hq hc hi1
  rintro⟨m,⟨ak,ap,an,av,al,aa,ab⟩,s2⟩ fr h1 ⟨f0,f2,f3,hi,hm,hr,rfl⟩
  simp only at hi hm hr
  cases m with
  |zero=>rw[appsS] at hr;cases hr
  |succ m=>
   rw[appsS] at hr
   simp only[u_C l114_0.eq_1,rn,pevA,seval,f0,f2,f3,kN,n2,n2.symm,n3,n3.symm,n32,n32.symm,exR]
   refine (begins_ok s2).use (by simp only[kG,kN,n2,n2.symm,n3,n3.symm,n32,n32.symm]<;>rfl) hk ?_
   cases c2:beginsS ts s2 with
   |true=>
    rw[c2,if_pos rfl] at hr
    cases hp:oneS ts e m s2 with
    |none=>rw[hp] at hr;cases hr
    |some q=>
     obtain⟨b0,s3⟩:=q
     rw[hp] at hr
     simp only at hr
     have hi3:=((ex_mv hts _ (by omega)).one _ _ _ hp).m.le hi
     have hc:=hO m (by omega) _ _ _ hi hp
     have ha:=apply_ok (.mk ak ap an av al aa ab) b0 ap
     obtain⟨bk,bp,bn,bv,bl,ba,bb⟩:=b0
     simp only[rn,pevA,seval,f0,f2,f3,kN,n2,n2.symm,n3,n3.symm,n32,n32.symm]
     refine hc.use (by simp only[kG,kN,n2,n2.symm,n3,n3.symm,n32,n32.symm]<;>rfl) hk ?_
     simp only[rn,pevA,seval,f0,f2,f3,kN,n2,n2.symm,n3,n3.symm,n32,n32.symm,exR]
     refine ha.use ?_
     simp only[rn,pevA,seval,f0,f2,f3,kN,n2,n2.symm,n3,n3.symm,n32,n32.symm,exR,applyS,hk3]
     exact⟨(m,_,s3),Nat.lt_succ_self m,f0,f2,f3,hi3,by show m<=n;omega,hr,rfl⟩
   |false=>
    rw[c2,if_neg (by decide)] at hr
    cases hr
    simp only[rn,pevA,seval,f0,f2,f3,kN,n2,n2.symm,n3,n3.symm,n32,n32.symm,hk2,zC]
    exact PC.fin (.refl _) (by repeat (first|exact AH.le_refl _|refine le_set ?_ (AH.set_none.2 ⟨n2,hb2⟩)|refine le_del ?_ (AH.set_none.2 ⟨n2,hb2⟩)|refine le_set ?_ (AH.set_none.2 ⟨n3,hb3⟩)|refine le_del ?_ (AH.set_none.2 ⟨n3,hb3⟩))) (hK _)
include hts in
theorem product_step {n:Nat}(hn:n+1<=most)(hO:AppOK ts e n)(hT:∀m,m<=n->TwoOK ts e m):ProductOK ts e (n+1):=by
 intro s x s' hs hr
 rw[productS] at hr
 cases hq:appS ts e n s with
 |none=>rw[hq] at hr;cases hr
 |some q=>
  obtain⟨a0,s1⟩:=q
  rw[hq] at hr
  simp only at hr
  have hi1:=((ex_mv hts _ (by omega)).app _ _ _ hq).m.le hs
  have hc:=hO _ _ _ hs hq
  obtain⟨ak,ap,an,av,al,aa,ab⟩:=a0
  refine PC.intro t113 fun K h b hk hK=>?_
  simp only[u_C c113.eq_1,rn,pevA,seval]
  intro b2 hb2 hk2
  obtain⟨n2,hb2⟩:=AH.set_none.1 hb2
  simp only[rn,pevA,seval]
  refine hc.use (by simp only[kG,kN,n2,n2.symm]<;>rfl) hk ?_
  simp only[rn,pevA,seval,kN,n2,n2.symm,exR]
  intro b3 hb3 hk3
  obtain⟨n32,n3,hb3⟩:=new3.1 hb3
  simp only[rn,pevA,seval,kN,n2,n2.symm,n3,n3.symm,n32,n32.symm,hk3]
  refine aloop (α:=Nat×Ex×St) (fun y fr h1=>fr 0=.ptr b 0/\fr 2=.ptr b2 0/\fr 3=.ptr b3 0/\y.2.2.i<=ts.length/\y.1<=n/\productsS ts e y.1 y.2.1 y.2.2=some (x,s')/\
   h1=((h.set b (parO ts e y.2.2)).set b2 (.cells zC 171)).set b3 (.cells (exR y.2.1) 171)) (fun y=>y.1) (n,.mk ak ap an av al aa ab,s1)
   ⟨rfl,rfl,rfl,hi1,Nat.le_refl _,hr,rfl⟩ ?_
  clear hr hq hc hi1
  rintro⟨m,a,s2⟩ fr h1 ⟨f0,f2,f3,hi,hm,hr,rfl⟩
  simp only at hi hm hr
  cases m with
  |zero=>rw[productsS] at hr;cases hr
  |succ m=>
   rw[productsS] at hr
   simp only[u_C l113_0.eq_1,rn,pevA,seval,f0,f2,f3,kN,n2,n2.symm,n3,n3.symm,n32,n32.symm]
   refine (sign_ok 9 [[42]] .no s2).use (by simp only[kG,kN,n2,n2.symm,n3,n3.symm,n32,n32.symm]<;>rfl) hk ?_
   cases c2:signS ts [[42]] s2 with
   |true=>
    rw[c2,if_pos rfl] at hr
    cases hp:twoS ts e m a 2 s2 with
    |none=>rw[hp] at hr;cases hr
    |some q=>
     obtain⟨b0,s3⟩:=q
     rw[hp] at hr
     simp only at hr
     have hi3:=((ex_mv hts _ (by omega)).two _ _ _ _ _ hp).m.le hi
     have hc:=hT m (by omega) _ _ _ _ _ hi hp
     obtain⟨ak,ap,an,av,al,aa,ab⟩:=a
     obtain⟨bk,bp,bn,bv,bl,ba,bb⟩:=b0
     simp only[rn,pevA,seval,f0,f2,f3,kN,n2,n2.symm,n3,n3.symm,n32,n32.symm,exR]
     refine hc.use (by simp only[kG,kN,n2,n2.symm,n3,n3.symm,n32,n32.symm]<;>rfl) hk ?_
     simp only[rn,pevA,seval,f0,f2,f3,kN,n2,n2.symm,n3,n3.symm,n32,n32.symm,exR,hk3]
     exact⟨(m,_,s3),Nat.lt_succ_self m,f0,f2,f3,hi3,by show m<=n;omega,hr,rfl⟩
   |false=>
    rw[c2,if_neg (by decide)] at hr
    cases hr
    obtain⟨ak,ap,an,av,al,aa,ab⟩:=x
    simp only[rn,pevA,seval,f0,f2,f3,kN,n2,n2.symm,n3,n3.symm,n32,n32.symm,hk2,exR,zC]
    exact PC.fin (.refl _) (by repeat (first|exact AH.le_refl _|refine le_set ?_ (AH.set_none.2 ⟨n2,hb2⟩)|refine le_del ?_ (AH.set_none.2 ⟨n2,hb2⟩)|refine le_set ?_ (AH.set_none.2 ⟨n3,hb3⟩)|refine le_del ?_ (AH.set_none.2 ⟨n3,hb3⟩))) (hK _)
include hts in
theorem sum_step {n:Nat}(hn:n+1<=most)(hO:ProductOK ts e n)(hT:∀m,m<=n->TwoOK ts e m):SumOK ts e (n+1):=by
 intro s x s' hs hr
 rw[sumS] at hr
 cases hq:productS ts e n s with
 |none=>rw[hq] at hr;cases hr
 |some q=>
  obtain⟨a0,s1⟩:=q
  rw[hq] at hr
  simp only at hr
  have hi1:=((ex_mv hts _ (by omega)).product _ _ _ hq).m.le hs
  have hc:=hO _ _ _ hs hq
  obtain⟨ak,ap,an,av,al,aa,ab⟩:=a0
  refine PC.intro t103 fun K h b hk hK=>?_
  simp only[u_C c103.eq_1,rn,pevA,seval]
  intro b2 hb2 hk2
  obtain⟨n2,hb2⟩:=AH.set_none.1 hb2
  simp only[rn,pevA,seval]
  refine hc.use (by simp only[kG,kN,n2,n2.symm]<;>rfl) hk ?_
  simp only[rn,pevA,seval,kN,n2,n2.symm,exR]
  intro b3 hb3 hk3
  obtain⟨n32,n3,hb3⟩:=new3.1 hb3
  simp only[rn,pevA,seval,kN,n2,n2.symm,n3,n3.symm,n32,n32.symm,hk3]
  refine aloop (α:=Nat×Ex×St) (fun y fr h1=>fr 0=.ptr b 0/\fr 2=.ptr b2 0/\fr 3=.ptr b3 0/\y.2.2.i<=ts.length/\y.1<=n/\sumsS ts e y.1 y.2.1 y.2.2=some (x,s')/\
   h1=((h.set b (parO ts e y.2.2)).set b2 (.cells zC 171)).set b3 (.cells (exR y.2.1) 171)) (fun y=>y.1) (n,.mk ak ap an av al aa ab,s1)
   ⟨rfl,rfl,rfl,hi1,Nat.le_refl _,hr,rfl⟩ ?_
  clear hr hq hc hi1
  rintro⟨m,a,s2⟩ fr h1 ⟨f0,f2,f3,hi,hm,hr,rfl⟩
  simp only at hi hm hr
  cases m with
  |zero=>rw[sumsS] at hr;cases hr
  |succ m=>
   rw[sumsS] at hr
   simp only[u_C l103_0.eq_1,rn,pevA,seval,f0,f2,f3,kN,n2,n2.symm,n3,n3.symm,n32,n32.symm]
   refine (sign_ok 9 [[43],[45]] .no s2).use (by simp only[kG,kN,n2,n2.symm,n3,n3.symm,n32,n32.symm]<;>rfl) hk ?_
   cases c2:signS ts [[43],[45]] s2 with
   |true=>
    rw[c2,if_pos rfl] at hr
    cases hp:twoS ts e m a 1 s2 with
    |none=>rw[hp] at hr;cases hr
    |some q=>
     obtain⟨b0,s3⟩:=q
     rw[hp] at hr
     simp only at hr
     have hi3:=((ex_mv hts _ (by omega)).two _ _ _ _ _ hp).m.le hi
     have hc:=hT m (by omega) _ _ _ _ _ hi hp
     obtain⟨ak,ap,an,av,al,aa,ab⟩:=a
     obtain⟨bk,bp,bn,bv,bl,ba,bb⟩:=b0
     simp only[rn,pevA,seval,f0,f2,f3,kN,n2,n2.symm,n3,n3.symm,n32,n32.symm,exR]
     refine hc.use (by simp only[kG,kN,n2,n2.symm,n3,n3.symm,n32,n32.symm]<;>rfl) hk ?_
     simp only[rn,pevA,seval,f0,f2,f3,kN,n2,n2.symm,n3,n3.symm,n32,n32.symm,exR,hk3]
     exact⟨(m,_,s3),Nat.lt_succ_self m,f0,f2,f3,hi3,by show m<=n;omega,hr,rfl⟩
   |false=>
    rw[c2,if_neg (by decide)] at hr
    cases hr
    obtain⟨ak,ap,an,av,al,aa,ab⟩:=x
    simp only[rn,pevA,seval,f0,f2,f3,kN,n2,n2.symm,n3,n3.symm,n32,n32.symm,hk2,exR,zC]
    exact PC.fin (.refl _) (by repeat (first|exact AH.le_refl _|refine le_set ?_ (AH.set_none.2 ⟨n2,hb2⟩)|refine le_del ?_ (AH.set_none.2 ⟨n2,hb2⟩)|refine le_set ?_ (AH.set_none.2 ⟨n3,hb3⟩)|refine le_del ?_ (AH.set_none.2 ⟨n3,hb3⟩))) (hK _)
end
end Go.Proofs.YtinbjdkibmkgbaaGreatDoor.p
namespace Go.Proofs.YtinbjdkibmkgbaaGreatDoor.p
open Go.Proofs Go Go.Cn code
set_option linter.unusedSimpArgs false
set_option linter.unusedVariables false
theorem del_in2 {h:AH}{b c d:Nat}{x y:AO}(n1:d≠b)(n2:d≠c)(hd:h.objs d=none):((h.set b x).set c y).del d=(h.set b x).set c y:=s_del (new3.2 ⟨n2,n1,hd⟩)
section
variable {ts:List Tk}{e:Int}(hts:ts.length<=1000000)
include hts in
theorem two_step {n:Nat}(hn:n+1<=most)(hS:SumOK ts e n)(hP:ProductOK ts e n)(hA:AppOK ts e n):TwoOK ts e (n+1):=by
 intro a w s x s' hs hr
 rw[twoS] at hr
 have hi1:=(Mvs.word (ts:=ts) (e:=e) 5 s).m.le hs
 cases hq:(if w=0 then sumS ts e n (wordS ts e 5 s).2 else if w=1 then productS ts e n (wordS ts e 5 s).2 else appS ts e n (wordS ts e 5 s).2) with
 |none=>rw[hq] at hr;cases hr
 |some q=>
  obtain⟨b0,s2⟩:=q
  rw[hq] at hr
  cases hr
  have h1:=apply_ok (.mk 1 (posS ts e s) (wordS ts e 5 s).1 0 [] [] []) a (posS ts e s)
  have h2:=apply_ok (applyS (.mk 1 (posS ts e s) (wordS ts e 5 s).1 0 [] [] []) a (posS ts e s)) b0 (posS ts e s)
  have hwk:WkL [AV.agg [.int .i64 1,.int .i64 (posS ts e s),.str (wordS ts e 5 s).1,.int .i64 0,.lst 0 [] .nil,.lst 0 [] .nil,.lst 0 [] .nil],.agg (exR a),.int .i64 (posS ts e s)] [.agg (exR (.mk 1 (posS ts e s) (wordS ts e 5 s).1 0 [] [] [])),.agg (exR a),.int .i64 (posS ts e s)]:=
   ⟨.aggL ⟨.refl _,.refl _,.refl _,.refl _,.nil _ _ _,.nil _ _ _,.nil _ _ _,trivial⟩,.refl _,.refl _,trivial⟩
  obtain⟨ak,ap,an,av,al,aa,ab⟩:=a
  obtain⟨bk,bp,bn,bv,bl,ba,bb⟩:=b0
  refine PC.intro t105 fun K h b hk hK=>?_
  simp only[u_C c105.eq_1,rn,pevA,seval,exR]
  intro b2 hb2 hk2
  obtain⟨n2,hb2⟩:=AH.set_none.1 hb2
  simp only[rn,pevA,seval]
  refine (pos_ok s).use (by simp only[kG,kN,n2,n2.symm]<;>rfl) hk ?_
  simp only[rn,pevA,seval,kN,n2,n2.symm]
  refine (word_ok hts 5 s).use (by simp only[kG,kN,n2,n2.symm]<;>rfl) hk ?_
  simp only[rn,pevA,seval,kN,n2,n2.symm]
  intro b3 hb3 hk3
  obtain⟨n32,n3,hb3⟩:=new3.1 hb3
  simp only[rn,pevA,seval,kN,n2,n2.symm,n3,n3.symm,n32,n32.symm,hk3]
  by_cases w0:w=0
  ·subst w0
   rw[if_pos rfl] at hq
   simp only[rn,pevA,seval,kN,n2,n2.symm,n3,n3.symm,n32,n32.symm,Int.natCast_zero]
   refine (hS _ _ _ hi1 hq).use (by simp only[kG,kN,n2,n2.symm,n3,n3.symm,n32,n32.symm]<;>rfl) hk ?_
   simp only[rn,pevA,seval,kN,n2,n2.symm,n3,n3.symm,n32,n32.symm,exR,hk3,del_in2,hb3,e_dregion d105_0,u_L s105_0.eq_1,u_T g105_0.eq_1]
   refine (h1.weakL hwk).use ?_
   simp only[rn,pevA,seval,kN,n2,n2.symm,n3,n3.symm,n32,n32.symm,exR,applyS,hk3,e_dregion d105_0,u_L s105_0.eq_1,u_T g105_0.eq_1]
   refine h2.use ?_
   simp only[rn,pevA,seval,kN,n2,n2.symm,n3,n3.symm,n32,n32.symm,exR,applyS,hk2,hk3,e_dregion d105_0,u_L s105_0.eq_1,u_T g105_0.eq_1]
   exact PC.fin (.refl _) (by repeat (first|exact AH.le_refl _|refine le_set ?_ (AH.set_none.2 ⟨n2,hb2⟩)|refine le_del ?_ (AH.set_none.2 ⟨n2,hb2⟩))) (hK _)
  ·have c0:decide ((w:Int)=0)=false:=decide_eq_false (by omega)
   rw[if_neg w0] at hq
   by_cases w1:w=1
   ·subst w1
    rw[if_pos rfl] at hq
    simp only[rn,pevA,seval,kN,n2,n2.symm,n3,n3.symm,n32,n32.symm,c0,Int.natCast_one]
    refine (hP _ _ _ hi1 hq).use (by simp only[kG,kN,n2,n2.symm,n3,n3.symm,n32,n32.symm]<;>rfl) hk ?_
    simp only[rn,pevA,seval,kN,n2,n2.symm,n3,n3.symm,n32,n32.symm,exR,hk3,del_in2,hb3,e_dregion d105_0,u_L s105_0.eq_1,u_T g105_0.eq_1]
    refine (h1.weakL hwk).use ?_
    simp only[rn,pevA,seval,kN,n2,n2.symm,n3,n3.symm,n32,n32.symm,exR,applyS,hk3,e_dregion d105_0,u_L s105_0.eq_1,u_T g105_0.eq_1]
    refine h2.use ?_
    simp only[rn,pevA,seval,kN,n2,n2.symm,n3,n3.symm,n32,n32.symm,exR,applyS,hk2,hk3,e_dregion d105_0,u_L s105_0.eq_1,u_T g105_0.eq_1]
    exact PC.fin (.refl _) (by repeat (first|exact AH.le_refl _|refine le_set ?_ (AH.set_none.2 ⟨n2,hb2⟩)|refine le_del ?_ (AH.set_none.2 ⟨n2,hb2⟩))) (hK _)
   ·have c1:decide ((w:Int)=1)=false:=decide_eq_false (by omega)
    rw[if_neg w1] at hq
    simp only[rn,pevA,seval,kN,n2,n2.symm,n3,n3.symm,n32,n32.symm,c0,c1]
    refine (hA _ _ _ hi1 hq).use (by simp only[kG,kN,n2,n2.symm,n3,n3.symm,n32,n32.symm]<;>rfl) hk ?_
    simp only[rn,pevA,seval,kN,n2,n2.symm,n3,n3.symm,n32,n32.symm,exR,hk3,del_in2,hb3,e_dregion d105_0,u_L s105_0.eq_1,u_T g105_0.eq_1]
    refine (h1.weakL hwk).use ?_
    simp only[rn,pevA,seval,kN,n2,n2.symm,n3,n3.symm,n32,n32.symm,exR,applyS,hk3,e_dregion d105_0,u_L s105_0.eq_1,u_T g105_0.eq_1]
    refine h2.use ?_
    simp only[rn,pevA,seval,kN,n2,n2.symm,n3,n3.symm,n32,n32.symm,exR,applyS,hk2,hk3,e_dregion d105_0,u_L s105_0.eq_1,u_T g105_0.eq_1]
    exact PC.fin (.refl _) (by repeat (first|exact AH.le_refl _|refine le_set ?_ (AH.set_none.2 ⟨n2,hb2⟩)|refine le_del ?_ (AH.set_none.2 ⟨n2,hb2⟩))) (hK _)
end
end Go.Proofs.YtinbjdkibmkgbaaGreatDoor.p
namespace Go.Proofs.YtinbjdkibmkgbaaGreatDoor.p
open Go.Proofs Go Go.Cn code
set_option linter.unusedSimpArgs false
set_option linter.unusedVariables false
section
variable {ts:List Tk}{e:Int}(hts:ts.length<=1000000)
include hts in
set_option maxRecDepth 2000 in
theorem one_step {n:Nat}(hn:n+1<=most)(hE:ExOK ts e n):OneOK ts e (n+1):=by
 intro s x s' hs hr
 rw[oneS] at hr
 refine PC.intro t118 fun K h b hk hK=>?_
 simp only[u_C c118.eq_1,rn,pevA,seval]
 intro b2 hb2 hk2
 obtain⟨n2,hb2⟩:=AH.set_none.1 hb2
 simp only[rn,pevA,seval]
 refine (begins_ok s).use (by simp only[kG,kN,n2,n2.symm]<;>rfl) hk ?_
 simp only[rn,pevA,seval,kN,n2,n2.symm]
 cases c0:beginsS ts s with
 |false=>
  rw[c0,if_neg (by decide)] at hr
  cases hr
  simp only[rn,pevA,seval,kN,n2,n2.symm]
  refine (wrong_ok s).use (by simp only[kG,kN,n2,n2.symm]<;>rfl) hk ?_
  simp only[rn,pevA,seval,kN,n2,n2.symm,hk2]
  exact PC.fin (.aggL ⟨.refl _,.refl _,.refl _,.refl _,.nil _ _ _,.nil _ _ _,.nil _ _ _,trivial⟩) (by repeat (first|exact AH.le_refl _|refine le_set ?_ (AH.set_none.2 ⟨n2,hb2⟩)|refine le_del ?_ (AH.set_none.2 ⟨n2,hb2⟩))) (hK _)
 |true=>
  have hb:=begins_fine c0
  have hlt:=hb.2
  rw[c0,if_pos rfl,get2 hlt] at hr
  simp only at hr
  simp only[e_dregion d118_0,u_L s118_0.eq_1,u_T g118_0.eq_1,rn,pevA,seval,kN,n2,n2.symm,parO,tkC_get hlt]
  intro c3 hc3 hkc
  obtain⟨m32,m3,hc3⟩:=new3.1 hc3
  simp only[e_dregion d118_0,u_L s118_0.eq_1,u_T g118_0.eq_1,rn,pevA,seval,kN,n2,n2.symm,del_in2,m3,m32,hc3,hkc]
  intro b3 hb3 hk3
  obtain⟨n32,n3,hb3⟩:=new3.1 hb3
  have wn:=w1 (Nat.lt_of_lt_of_le hlt hts)
  by_cases k1:(ts[s.i]).kind=1
  ·rw[if_pos k1] at hr
   cases hr
   simp only[rn,pevA,seval,kN,n2,n2.symm,n3,n3.symm,n32,n32.symm,hk3,k1,wn,hk,hk2]
   exact PC.fin (o:=parO ts e (nextS s)) (.aggL ⟨.refl _,.refl _,.refl _,.refl _,.nil _ _ _,.nil _ _ _,.nil _ _ _,trivial⟩) (by repeat (first|exact AH.le_refl _|refine le_set ?_ (AH.set_none.2 ⟨n2,hb2⟩)|refine le_del ?_ (AH.set_none.2 ⟨n2,hb2⟩)|refine le_set ?_ (AH.set_none.2 ⟨n3,hb3⟩)|refine le_del ?_ (AH.set_none.2 ⟨n3,hb3⟩))) (hK _)
  rw[if_neg k1] at hr
  have d1:decide ((ts[s.i]).kind=1)=false:=decide_eq_false k1
  by_cases k2:(ts[s.i]).kind=2
  ·rw[if_pos k2] at hr
   cases hr
   simp only[rn,pevA,seval,kN,n2,n2.symm,n3,n3.symm,n32,n32.symm,hk3,k2,wn,hk,hk2]
   exact PC.fin (o:=parO ts e (nextS s)) (.aggL ⟨.refl _,.refl _,.refl _,.refl _,.nil _ _ _,.nil _ _ _,.nil _ _ _,trivial⟩) (by repeat (first|exact AH.le_refl _|refine le_set ?_ (AH.set_none.2 ⟨n2,hb2⟩)|refine le_del ?_ (AH.set_none.2 ⟨n2,hb2⟩)|refine le_set ?_ (AH.set_none.2 ⟨n3,hb3⟩)|refine le_del ?_ (AH.set_none.2 ⟨n3,hb3⟩))) (hK _)
  rw[if_neg k2] at hr
  have d2:decide ((ts[s.i]).kind=2)=false:=decide_eq_false k2
  by_cases k3:(ts[s.i]).kind=3
  ·rw[if_pos k3] at hr
   cases hr
   simp only[rn,pevA,seval,kN,n2,n2.symm,n3,n3.symm,n32,n32.symm,hk3,k3,wn,hk,hk2]
   exact PC.fin (o:=parO ts e (nextS s)) (.aggL ⟨.refl _,.refl _,.refl _,.refl _,.nil _ _ _,.nil _ _ _,.nil _ _ _,trivial⟩) (by repeat (first|exact AH.le_refl _|refine le_set ?_ (AH.set_none.2 ⟨n2,hb2⟩)|refine le_del ?_ (AH.set_none.2 ⟨n2,hb2⟩)|refine le_set ?_ (AH.set_none.2 ⟨n3,hb3⟩)|refine le_del ?_ (AH.set_none.2 ⟨n3,hb3⟩))) (hK _)
  rw[if_neg k3] at hr
  have d3:decide ((ts[s.i]).kind=3)=false:=decide_eq_false k3
  by_cases k4:(ts[s.i]).kind=4
  ·rw[if_pos k4] at hr
   cases hr
   simp only[rn,pevA,seval,kN,n2,n2.symm,n3,n3.symm,n32,n32.symm,hk3,k4,wn,hk,hk2]
   exact PC.fin (o:=parO ts e (nextS s)) (.aggL ⟨.refl _,.refl _,.refl _,.refl _,.nil _ _ _,.nil _ _ _,.nil _ _ _,trivial⟩) (by repeat (first|exact AH.le_refl _|refine le_set ?_ (AH.set_none.2 ⟨n2,hb2⟩)|refine le_del ?_ (AH.set_none.2 ⟨n2,hb2⟩)|refine le_set ?_ (AH.set_none.2 ⟨n3,hb3⟩)|refine le_del ?_ (AH.set_none.2 ⟨n3,hb3⟩))) (hK _)
  rw[if_neg k4] at hr
  have d4:decide ((ts[s.i]).kind=4)=false:=decide_eq_false k4
  by_cases hl2:s.i+1<ts.length
  ·have c1:decide (((s.i+1:Nat):Int)<(ts.length:Int))=true:=decide_eq_true (by omega)
   rw[get2 hl2] at hr
   simp only at hr
   by_cases k5:(ts[s.i+1]).kind=5
   ·rw[if_pos k5] at hr
    cases hr
    simp only[e_dregion d118_1,u_L s118_1.eq_1,u_T g118_1.eq_1,e_dregion d118_2,u_L s118_2.eq_1,u_T g118_2.eq_1,e_dregion d118_3,u_L s118_3.eq_1,u_T g118_3.eq_1,rn,pevA,seval,kN,n2,n2.symm,n3,n3.symm,n32,n32.symm,hk3,d1,d2,d3,d4,wn,tkC_len,c1,tkC_get hl2,k5,w2 (Nat.lt_of_lt_of_le hlt hts),hk,hk2]
    refine (take_ok hts [41] {s with i:=s.i+2}).use (by simp only[kG,kN,n2,n2.symm,n3,n3.symm,n32,n32.symm]<;>rfl) hk ?_
    simp only[rn,pevA,seval,kN,n2,n2.symm,n3,n3.symm,n32,n32.symm,hk2]
    exact PC.fin (.aggL ⟨.refl _,.refl _,.refl _,.refl _,.nil _ _ _,.nil _ _ _,.nil _ _ _,trivial⟩) (by repeat (first|exact AH.le_refl _|refine le_set ?_ (AH.set_none.2 ⟨n2,hb2⟩)|refine le_del ?_ (AH.set_none.2 ⟨n2,hb2⟩)|refine le_set ?_ (AH.set_none.2 ⟨n3,hb3⟩)|refine le_del ?_ (AH.set_none.2 ⟨n3,hb3⟩))) (hK _)
   ·have d5:decide ((ts[s.i+1]).kind=5)=false:=decide_eq_false k5
    rw[if_neg k5] at hr
    simp only at hr
    cases hq:exprS ts e n (openS ts e s) with
    |none=>rw[hq] at hr;cases hr
    |some q=>
     obtain⟨y,s1⟩:=q
     rw[hq] at hr
     cases hr
     obtain⟨yk,yp,yn,yv,yl,ya,yb⟩:=x
     simp only[e_dregion d118_1,u_L s118_1.eq_1,u_T g118_1.eq_1,e_dregion d118_2,u_L s118_2.eq_1,u_T g118_2.eq_1,e_dregion d118_3,u_L s118_3.eq_1,u_T g118_3.eq_1,rn,pevA,seval,kN,n2,n2.symm,n3,n3.symm,n32,n32.symm,hk3,d1,d2,d3,d4,wn,tkC_len,c1,tkC_get hl2,d5,hk,hk2]
     refine (open_ok hts s hlt).use (by simp only[kG,kN,n2,n2.symm,n3,n3.symm,n32,n32.symm]<;>rfl) hk ?_
     simp only[rn,pevA,seval,kN,n2,n2.symm,n3,n3.symm,n32,n32.symm]
     refine (hE _ _ _ (openS_i hlt) hq).use (by simp only[kG,kN,n2,n2.symm,n3,n3.symm,n32,n32.symm]<;>rfl) hk ?_
     simp only[rn,pevA,seval,kN,n2,n2.symm,n3,n3.symm,n32,n32.symm,exR,hk3]
     refine (take_ok hts [41] s1).use (by simp only[kG,kN,n2,n2.symm,n3,n3.symm,n32,n32.symm]<;>rfl) hk ?_
     simp only[rn,pevA,seval,kN,n2,n2.symm,n3,n3.symm,n32,n32.symm]
     refine (shut_ok _).use (by simp only[kG,kN,n2,n2.symm,n3,n3.symm,n32,n32.symm]<;>rfl) hk ?_
     simp only[rn,pevA,seval,kN,n2,n2.symm,n3,n3.symm,n32,n32.symm,hk2]
     exact PC.fin (.refl _) (by repeat (first|exact AH.le_refl _|refine le_set ?_ (AH.set_none.2 ⟨n2,hb2⟩)|refine le_del ?_ (AH.set_none.2 ⟨n2,hb2⟩)|refine le_set ?_ (AH.set_none.2 ⟨n3,hb3⟩)|refine le_del ?_ (AH.set_none.2 ⟨n3,hb3⟩))) (hK _)
  ·have c1:decide (((s.i+1:Nat):Int)<(ts.length:Int))=false:=decide_eq_false (by omega)
   rw[List.getElem?_eq_none (by omega)] at hr
   simp only at hr
   cases hq:exprS ts e n (openS ts e s) with
   |none=>rw[hq] at hr;cases hr
   |some q=>
    obtain⟨y,s1⟩:=q
    rw[hq] at hr
    cases hr
    obtain⟨yk,yp,yn,yv,yl,ya,yb⟩:=x
    simp only[e_dregion d118_1,u_L s118_1.eq_1,u_T g118_1.eq_1,e_dregion d118_2,u_L s118_2.eq_1,u_T g118_2.eq_1,e_dregion d118_3,u_L s118_3.eq_1,u_T g118_3.eq_1,rn,pevA,seval,kN,n2,n2.symm,n3,n3.symm,n32,n32.symm,hk3,d1,d2,d3,d4,wn,tkC_len,c1,hk,hk2]
    refine (open_ok hts s hlt).use (by simp only[kG,kN,n2,n2.symm,n3,n3.symm,n32,n32.symm]<;>rfl) hk ?_
    simp only[rn,pevA,seval,kN,n2,n2.symm,n3,n3.symm,n32,n32.symm]
    refine (hE _ _ _ (openS_i hlt) hq).use (by simp only[kG,kN,n2,n2.symm,n3,n3.symm,n32,n32.symm]<;>rfl) hk ?_
    simp only[rn,pevA,seval,kN,n2,n2.symm,n3,n3.symm,n32,n32.symm,exR,hk3]
    refine (take_ok hts [41] s1).use (by simp only[kG,kN,n2,n2.symm,n3,n3.symm,n32,n32.symm]<;>rfl) hk ?_
    simp only[rn,pevA,seval,kN,n2,n2.symm,n3,n3.symm,n32,n32.symm]
    refine (shut_ok _).use (by simp only[kG,kN,n2,n2.symm,n3,n3.symm,n32,n32.symm]<;>rfl) hk ?_
    simp only[rn,pevA,seval,kN,n2,n2.symm,n3,n3.symm,n32,n32.symm,hk2]
    exact PC.fin (.refl _) (by repeat (first|exact AH.le_refl _|refine le_set ?_ (AH.set_none.2 ⟨n2,hb2⟩)|refine le_del ?_ (AH.set_none.2 ⟨n2,hb2⟩)|refine le_set ?_ (AH.set_none.2 ⟨n3,hb3⟩)|refine le_del ?_ (AH.set_none.2 ⟨n3,hb3⟩))) (hK _)
end
end Go.Proofs.YtinbjdkibmkgbaaGreatDoor.p
namespace Go.Proofs.YtinbjdkibmkgbaaGreatDoor.p
open Go.Proofs Go Go.Cn code
set_option linter.unusedSimpArgs false
set_option linter.unusedVariables false
theorem _root_.Go.Cn.Toks.row {t:Nat->Option Tok}{b:Nat}(E sz n:Nat)(hb:t b=none):Toks t (upd t b (some ⟨b,0,n*sz,n*sz,sz,E⟩)) [(.own b b 0 (n*sz) (n*sz) sz,E,sz,0)] where
 le:=fun c k hc=>by
  simp only[upd]
  rw[if_neg (by rintro rfl;rw[hb] at hc;cases hc)]
  exact hc
 own:=fun i tag E' sz' k hi=>by
  match i,hi with
  |0,hi=>
   cases hi
   exact⟨rfl,by simp[upd],by simp⟩
  |i+1,hi=>simp at hi
 out:=fun i tag E' sz' k c hi hc=>by
  match i,hi with
  |0,hi=>
   cases hi
   cases hc
   exact hb
  |i+1,hi=>simp at hi
 sep:=fun i j a b' c hij hi hj=>by
  match i,j,hi,hj with
  |0,0,_,_=>exact absurd rfl hij
  |0,j+1,_,hj=>simp at hj
  |i+1,_,hi,_=>simp at hi
section
variable (ts:List Tk)(e:Int)
def AltsOK (n:Nat):Prop:=∀s l s',s.i<=ts.length->altsS ts e n [] s=some (l,s')->PC ts e 102 [] (.lst 186 (alsR l) .no) s s'
def DefsOK (n:Nat):Prop:=∀s g bs s2,s.i<=ts.length->defsL ts e n [] [] s=some (g,bs,s2)->PC ts e 101 [] (.lst 175 (bisR (joinL [] g bs s2).1) .no) s (joinL [] g bs s2).2
end
section
variable {ts:List Tk}{e:Int}(hts:ts.length<=1000000)
theorem lows_len:∀(n:Nat)(acc:List Nm)(s:St)(l:List Nm)(s':St),lowsS ts e n acc s=some (l,s')->l.length<=acc.length+n
 |0,acc,s,l,s',h=>by rw[lowsS] at h;cases h
 |n+1,acc,s,l,s',h=>by
  rw[lowsS] at h
  split at h
  ·have:=lows_len n _ _ _ _ h
   simp at this;omega
  ·cases h;omega
include hts in
theorem lam_loop {n:Nat}(hn:n+1<=most)(K:Nat->Prop)(h:AH)(b b2:Nat)(X:AO)(n2:b2≠b)(hk:¬K b)(hk2:¬K b2)(t0:Nat->Option Tok)(pos:Int)(l:List Nm)(s':St)(R:CExit->AQ)
  (hR:∀fr tag t',fr 0=.ptr b 0->fr 2=.ptr b2 0->fr 3=.int .i64 pos->fr 4=.lst 9 (strC l) tag->Toks t0 t' [(tag,9,1,0)]->R (.exit 1) fr (((h.set b (parO ts e s')).set b2 X).tk t')) :
  ∀(s:St)(acc:List Nm)(fr:AFr)(tag:Tag)(t':Nat->Option Tok),acc.length<=1->lowsS ts e n acc s=some (l,s')->fr 0=.ptr b 0->fr 2=.ptr b2 0->fr 3=.int .i64 pos->fr 4=.lst 9 (strC acc) tag->Toks t0 t' [(tag,9,1,0)]->
   W T K (.loop l82_0.toC) fr (((h.set b (parO ts e s)).set b2 X).tk t') R:=by
 intro s acc fr tag t' hacc hq f0 f2 f3 f4 hT
 refine aloop (α:=Nat×List Nm×St) (fun x fr h1=>fr 0=.ptr b 0/\fr 2=.ptr b2 0/\fr 3=.int .i64 pos/\x.2.1.length+x.1<=most/\lowsS ts e x.1 x.2.1 x.2.2=some (l,s')/\
  ∃tag t',fr 4=.lst 9 (strC x.2.1) tag/\Toks t0 t' [(tag,9,1,0)]/\h1=((h.set b (parO ts e x.2.2)).set b2 X).tk t') (fun x=>x.1) (n,acc,s) ⟨f0,f2,f3,by show acc.length+n<=most;omega,hq,tag,t',f4,hT,rfl⟩ ?_
 clear hq hT f0 f2 f3 f4
 rintro⟨m,acc,s2⟩ fr h1 ⟨f0,f2,f3,hB,hq,tag,t',f4,hT,rfl⟩
 simp only at hB hq f4
 cases m with
 |zero=>rw[lowsS] at hq;cases hq
 |succ m=>
  rw[lowsS] at hq
  simp only[u_C l82_0.eq_1,rn,pevA,seval,f0,f2,f3,f4,kN,n2,n2.symm]
  refine (kind_ok 1 s2).use (by simp only[kG,kN,n2,n2.symm]<;>rfl) hk ?_
  cases c2:kindS ts 1 s2 with
  |true=>
   rw[c2,if_pos rfl] at hq
   simp only[rn,pevA,seval,f0,f2,f3,f4,kN,n2,n2.symm]
   refine (word_ok hts 1 s2).use (by simp only[kG,kN,n2,n2.symm]<;>rfl) hk ?_
   simp only[rn,pevA,seval,f0,f2,f3,f4,kN,n2,n2.symm]
   refine WO.append (i:=0) hT rfl rfl rfl trivial (by decide) (by simp) rfl (.inr rfl) (fun _=>?_) ?_ fun tag2 t2 hT2=>?_
   ·simp[capOk,strC_len];unfold most at hB;omega
   ·simp[big_eq,strC_len];unfold most at hB;omega
   rw[strC_app]
   simp only[rn,pevA,seval,f0,f2,f3,kN,n2,n2.symm]
   exact⟨(m,_,_),Nat.lt_succ_self m,f0,f2,f3,by show (acc++[_]).length+m<=most;simp;omega,hq,tag2,t2,rfl,hT2,rfl⟩
  |false=>
   rw[c2,if_neg (by decide)] at hq
   cases hq
   simp only[rn,pevA,seval,f0,f2,f3,f4,kN,n2,n2.symm]
   exact hR _ _ _ f0 f2 f3 f4 hT
end
end Go.Proofs.YtinbjdkibmkgbaaGreatDoor.p
namespace Go.Proofs.YtinbjdkibmkgbaaGreatDoor.p
open Go.Proofs Go Go.Cn code
set_option linter.unusedSimpArgs false
set_option linter.unusedVariables false
section
variable {ts:List Tk}{e:Int}(hts:ts.length<=1000000)
include hts in
set_option maxRecDepth 2000 in
theorem expr_step {n:Nat}(hn:n+1<=most)(hE:ExOK ts e n)(hS:SumOK ts e n)(hT:TwoOK ts e n)(hA:AltsOK ts e n)(hD:DefsOK ts e n):ExOK ts e (n+1):=by
 intro s x s' hs hr
 rw[exprS] at hr
 have mv:=ex_mv hts n (e:=e) (by omega)
 refine PC.intro t82 fun K h b hk hK=>?_
 simp only[u_C c82.eq_1,rn,pevA,seval]
 intro b2 hb2 hk2
 obtain⟨n2,hb2⟩:=AH.set_none.1 hb2
 simp only[rn,pevA,seval]
 refine (pos_ok s).use (by simp only[kG,kN,n2,n2.symm]<;>rfl) hk ?_
 simp only[rn,pevA,seval,kN,n2,n2.symm]
 refine (is_ok [92] s).use (by simp only[kG,kN,n2,n2.symm]<;>rfl) hk ?_
 simp only[rn,pevA,seval,kN,n2,n2.symm]
 cases c1:isS ts [92] s with
 |true=>
  rw[c1,if_pos rfl] at hr
  have hlt:=isS_lt c1
  cases hq:lowsS ts e n [(wordS ts e 1 (openS ts e s)).1] (wordS ts e 1 (openS ts e s)).2 with
  |none=>rw[hq] at hr;cases hr
  |some q=>
   obtain⟨l,s3⟩:=q
   rw[hq] at hr
   simp only at hr
   cases hp:exprS ts e n (takeS ts e [45,62] s3) with
   |none=>rw[hp] at hr;cases hr
   |some q=>
    obtain⟨y,s5⟩:=q
    rw[hp] at hr
    cases hr
    have hi1:=openS_i (e:=e) hlt
    have hi2:=wordS_i (e:=e) hi1 1
    have hi3:=(lows_mv _ _ _ _ _ hq).le hi2
    have hll:=lows_len _ _ _ _ _ hq
    have hc:=hE _ _ _ (takeS_i (e:=e) hi3 [45,62]) hp
    have hlam:∀tag,Pure T 83 [.lst 9 (strC l) tag,.agg (exR y),.int .i64 (posS ts e s)] (.agg (exR (lambdasS l y (posS ts e s)))):=fun tag=>lambdas_ok _ _ _ _ _ (by simp at hll;omega)
    generalize lambdasS l y (posS ts e s)=z at hlam ⊢
    obtain⟨zk,zp,zn,zv,zl,za,zb⟩:=z
    simp only[rn,pevA,seval,kN,n2,n2.symm]
    refine (open_ok hts s hlt).use (by simp only[kG,kN,n2,n2.symm]<;>rfl) hk ?_
    simp only[rn,pevA,seval,kN,n2,n2.symm]
    refine (word_ok hts 1 _).use (by simp only[kG,kN,n2,n2.symm]<;>rfl) hk ?_
    simp only[rn,pevA,seval,kN,n2,n2.symm]
    refine WO.bslT rfl (by decide) (by decide) (by decide) fun c hc1 hc2=>?_
    simp only[rn,pevA,seval,kN,n2,n2.symm]
    refine lam_loop hts hn K h b b2 _ n2 hk hk2 h.toks (posS ts e s) l s3 _ (fun fr tag t' f0 f2 f3 f4 hT=>?_) _ _ _ _ _ (Nat.le_refl _) hq rfl rfl rfl rfl (.row 9 1 1 hc1)
    simp only[rn,pevA,seval,kN,n2,n2.symm,f0,f2,f3,f4]
    refine (take_ok hts [45,62] s3).use (by simp only[kG,kN,n2,n2.symm]<;>rfl) hk ?_
    simp only[rn,pevA,seval,kN,n2,n2.symm,f0,f2,f3,f4]
    refine hc.use (by simp only[kG,kN,n2,n2.symm]<;>rfl) hk ?_
    have hlam:=hlam tag
    obtain⟨yk,yp,yn,yv,yl,ya,yb⟩:=y
    simp only[rn,pevA,seval,kN,n2,n2.symm,f0,f2,f3,f4,exR]
    refine (shut_ok _).use (by simp only[kG,kN,n2,n2.symm]<;>rfl) hk ?_
    simp only[rn,pevA,seval,kN,n2,n2.symm,f0,f2,f3,f4]
    refine hlam.use ?_
    simp only[rn,pevA,seval,kN,n2,n2.symm,f0,f2,f3,f4,exR,hk2]
    exact PC.fin (.refl _) (by repeat (first|exact AH.le_refl _|refine le_tk ?_ hT.le|refine le_set ?_ (AH.set_none.2 ⟨n2,hb2⟩)|refine le_del ?_ (AH.set_none.2 ⟨n2,hb2⟩))) (hK _)
 |false=>
  rw[c1,if_neg (by decide)] at hr
  simp only[rn,pevA,seval,kN,n2,n2.symm]
  refine (is_ok [108,101,116] s).use (by simp only[kG,kN,n2,n2.symm]<;>rfl) hk ?_
  simp only[rn,pevA,seval,kN,n2,n2.symm]
  cases c2:isS ts [108,101,116] s with
  |true=>
   rw[c2,if_pos rfl] at hr
   have hlt:=isS_lt c2
   cases hq:defsL ts e n [] [] (takeS ts e [123] (openS ts e s)) with
   |none=>rw[hq] at hr;cases hr
   |some q=>
    obtain⟨g,bs,s2⟩:=q
    rw[hq] at hr
    simp only at hr
    have hi1:=takeS_i (e:=e) (openS_i (e:=e) hlt) [123]
    have hi2:=(mv.defs _ _ _ _ _ _ hq).le hi1
    have hd:=hD _ _ _ _ hi1 hq
    have hij:=(Mv.join (ts:=ts) g [] bs s2).le hi2
    generalize joinL [] g bs s2=jj at hr hd hij
    obtain⟨bl,s3⟩:=jj
    simp only at hr hd hij
    cases hp:exprS ts e n (takeS ts e [105,110] (takeS ts e [125] s3)) with
    |none=>rw[hp] at hr;cases hr
    |some q=>
     obtain⟨⟨yk,yp,yn,yv,yl,ya,yb⟩,s5⟩:=q
     rw[hp] at hr
     cases hr
     have hc:=hE _ _ _ (takeS_i (e:=e) (takeS_i (e:=e) hij [125]) [105,110]) hp
     simp only[rn,pevA,seval,kN,n2,n2.symm]
     refine (open_ok hts s hlt).use (by simp only[kG,kN,n2,n2.symm]<;>rfl) hk ?_
     simp only[rn,pevA,seval,kN,n2,n2.symm]
     refine (take_ok hts [123] _).use (by simp only[kG,kN,n2,n2.symm]<;>rfl) hk ?_
     simp only[rn,pevA,seval,kN,n2,n2.symm]
     refine hd.use (by simp only[kG,kN,n2,n2.symm]<;>rfl) hk ?_
     simp only[rn,pevA,seval,kN,n2,n2.symm]
     refine (take_ok hts [125] _).use (by simp only[kG,kN,n2,n2.symm]<;>rfl) hk ?_
     simp only[rn,pevA,seval,kN,n2,n2.symm]
     refine (take_ok hts [105,110] _).use (by simp only[kG,kN,n2,n2.symm]<;>rfl) hk ?_
     simp only[rn,pevA,seval,kN,n2,n2.symm]
     refine hc.use (by simp only[kG,kN,n2,n2.symm]<;>rfl) hk ?_
     simp only[rn,pevA,seval,kN,n2,n2.symm,exR]
     refine (shut_ok _).use (by simp only[kG,kN,n2,n2.symm]<;>rfl) hk ?_
     simp only[rn,pevA,seval,kN,n2,n2.symm,hk2]
     exact PC.fin (.aggL ⟨.refl _,.refl _,.refl _,.refl _,.refl _,.nil _ _ _,.refl _,trivial⟩) (by repeat (first|exact AH.le_refl _|refine le_set ?_ (AH.set_none.2 ⟨n2,hb2⟩)|refine le_del ?_ (AH.set_none.2 ⟨n2,hb2⟩))) (hK _)
  |false=>
   rw[c2,if_neg (by decide)] at hr
   simp only[rn,pevA,seval,kN,n2,n2.symm]
   refine (is_ok [99,97,115,101] s).use (by simp only[kG,kN,n2,n2.symm]<;>rfl) hk ?_
   simp only[rn,pevA,seval,kN,n2,n2.symm]
   cases c3:isS ts [99,97,115,101] s with
   |true=>
    rw[c3,if_pos rfl] at hr
    have hlt:=isS_lt c3
    have hi1:=openS_i (e:=e) hlt
    cases hq:exprS ts e n (openS ts e s) with
    |none=>rw[hq] at hr;cases hr
    |some q=>
     obtain⟨⟨yk,yp,yn,yv,yl,ya,yb⟩,s1⟩:=q
     rw[hq] at hr
     simp only at hr
     have hi2:=(mv.expr _ _ _ hq).m.le hi1
     have hi3:=takeS_i (e:=e) (takeS_i (e:=e) hi2 [111,102]) [123]
     cases hp:altsS ts e n [] (takeS ts e [123] (takeS ts e [111,102] s1)) with
     |none=>rw[hp] at hr;cases hr
     |some q=>
      obtain⟨al,s2⟩:=q
      rw[hp] at hr
      cases hr
      simp only[rn,pevA,seval,kN,n2,n2.symm]
      refine (open_ok hts s hlt).use (by simp only[kG,kN,n2,n2.symm]<;>rfl) hk ?_
      simp only[rn,pevA,seval,kN,n2,n2.symm]
      refine (hE _ _ _ hi1 hq).use (by simp only[kG,kN,n2,n2.symm]<;>rfl) hk ?_
      simp only[rn,pevA,seval,kN,n2,n2.symm,exR]
      refine (take_ok hts [111,102] _).use (by simp only[kG,kN,n2,n2.symm]<;>rfl) hk ?_
      simp only[rn,pevA,seval,kN,n2,n2.symm]
      refine (take_ok hts [123] _).use (by simp only[kG,kN,n2,n2.symm]<;>rfl) hk ?_
      simp only[rn,pevA,seval,kN,n2,n2.symm]
      refine (hA _ _ _ hi3 hp).use (by simp only[kG,kN,n2,n2.symm]<;>rfl) hk ?_
      simp only[rn,pevA,seval,kN,n2,n2.symm]
      refine (take_ok hts [125] _).use (by simp only[kG,kN,n2,n2.symm]<;>rfl) hk ?_
      simp only[rn,pevA,seval,kN,n2,n2.symm]
      refine (shut_ok _).use (by simp only[kG,kN,n2,n2.symm]<;>rfl) hk ?_
      simp only[rn,pevA,seval,kN,n2,n2.symm,hk2]
      exact PC.fin (.aggL ⟨.refl _,.refl _,.refl _,.refl _,.refl _,.refl _,.nil _ _ _,trivial⟩) (by repeat (first|exact AH.le_refl _|refine le_set ?_ (AH.set_none.2 ⟨n2,hb2⟩)|refine le_del ?_ (AH.set_none.2 ⟨n2,hb2⟩))) (hK _)
   |false=>
    rw[c3,if_neg (by decide)] at hr
    simp only[rn,pevA,seval,kN,n2,n2.symm]
    refine (is_ok [105,102] s).use (by simp only[kG,kN,n2,n2.symm]<;>rfl) hk ?_
    simp only[rn,pevA,seval,kN,n2,n2.symm]
    cases c4:isS ts [105,102] s with
    |true=>
     rw[c4,if_pos rfl] at hr
     have hlt:=isS_lt c4
     have hi1:=openS_i (e:=e) hlt
     cases h1:exprS ts e n (openS ts e s) with
     |none=>rw[h1] at hr;cases hr
     |some q=>
      obtain⟨⟨xk,xp,xn,xv,xl,xa,xb⟩,s1⟩:=q
      rw[h1] at hr
      simp only at hr
      have hi2:=takeS_i (e:=e) ((mv.expr _ _ _ h1).m.le hi1) [116,104,101,110]
      cases h2:exprS ts e n (takeS ts e [116,104,101,110] s1) with
      |none=>rw[h2] at hr;cases hr
      |some q=>
       obtain⟨⟨yk,yp,yn,yv,yl,ya,yb⟩,s2⟩:=q
       rw[h2] at hr
       simp only at hr
       have hi3:=takeS_i (e:=e) ((mv.expr _ _ _ h2).m.le hi2) [101,108,115,101]
       cases h3:exprS ts e n (takeS ts e [101,108,115,101] s2) with
       |none=>rw[h3] at hr;cases hr
       |some q=>
        obtain⟨⟨zk,zp,zn,zv,zl,za,zb⟩,s3⟩:=q
        rw[h3] at hr
        cases hr
        simp only[rn,pevA,seval,kN,n2,n2.symm]
        refine (open_ok hts s hlt).use (by simp only[kG,kN,n2,n2.symm]<;>rfl) hk ?_
        simp only[rn,pevA,seval,kN,n2,n2.symm]
        refine (hE _ _ _ hi1 h1).use (by simp only[kG,kN,n2,n2.symm]<;>rfl) hk ?_
        simp only[rn,pevA,seval,kN,n2,n2.symm,exR]
        refine (take_ok hts [116,104,101,110] _).use (by simp only[kG,kN,n2,n2.symm]<;>rfl) hk ?_
        simp only[rn,pevA,seval,kN,n2,n2.symm]
        refine (hE _ _ _ hi2 h2).use (by simp only[kG,kN,n2,n2.symm]<;>rfl) hk ?_
        simp only[rn,pevA,seval,kN,n2,n2.symm,exR]
        refine (take_ok hts [101,108,115,101] _).use (by simp only[kG,kN,n2,n2.symm]<;>rfl) hk ?_
        simp only[rn,pevA,seval,kN,n2,n2.symm]
        refine (hE _ _ _ hi3 h3).use (by simp only[kG,kN,n2,n2.symm]<;>rfl) hk ?_
        simp only[rn,pevA,seval,kN,n2,n2.symm,exR]
        refine (shut_ok _).use (by simp only[kG,kN,n2,n2.symm]<;>rfl) hk ?_
        simp only[rn,pevA,seval,kN,n2,n2.symm,hk2]
        exact PC.fin (.aggL ⟨.refl _,.refl _,.refl _,.refl _,.refl _,.lstL ⟨⟨.refl _,.nil _ _ _,.refl _,.refl _,.refl _,.refl _,.refl _,.refl _,.refl _,.refl _,trivial⟩,⟨.refl _,.nil _ _ _,.refl _,.refl _,.refl _,.refl _,.refl _,.refl _,.refl _,.refl _,trivial⟩,trivial⟩,.nil _ _ _,trivial⟩) (by repeat (first|exact AH.le_refl _|refine le_set ?_ (AH.set_none.2 ⟨n2,hb2⟩)|refine le_del ?_ (AH.set_none.2 ⟨n2,hb2⟩))) (hK _)
    |false=>
     rw[c4,if_neg (by decide)] at hr
     simp only[rn,pevA,seval,kN,n2,n2.symm]
     cases hq:sumS ts e n s with
     |none=>rw[hq] at hr;cases hr
     |some q=>
      obtain⟨a,s1⟩:=q
      rw[hq] at hr
      simp only at hr
      have hi1:=(mv.sum _ _ _ hq).m.le hs
      have hc:=hS _ _ _ hs hq
      have ht:=hT a 0 s1 x s' hi1
      obtain⟨ak,ap,an,av,al,aa,ab⟩:=a
      refine hc.use (by simp only[kG,kN,n2,n2.symm]<;>rfl) hk ?_
      simp only[rn,pevA,seval,kN,n2,n2.symm,exR]
      refine (sign_ok 9 [[61,61],[47,61],[60],[60,61],[62],[62,61]] .no s1).use (by simp only[kG,kN,n2,n2.symm]<;>rfl) hk ?_
      cases c5:signS ts [[61,61],[47,61],[60],[60,61],[62],[62,61]] s1 with
      |true=>
       rw[c5,if_pos rfl] at hr
       obtain⟨xk,xp,xn,xv,xl,xa,xb⟩:=x
       simp only[rn,pevA,seval,kN,n2,n2.symm]
       refine (ht hr).use (by simp only[kG,kN,n2,n2.symm]<;>rfl) hk ?_
       simp only[rn,pevA,seval,kN,n2,n2.symm,exR,hk2]
       exact PC.fin (.refl _) (by repeat (first|exact AH.le_refl _|refine le_set ?_ (AH.set_none.2 ⟨n2,hb2⟩)|refine le_del ?_ (AH.set_none.2 ⟨n2,hb2⟩))) (hK _)
      |false=>
       rw[c5,if_neg (by decide)] at hr
       cases hr
       simp only[rn,pevA,seval,kN,n2,n2.symm,hk2]
       exact PC.fin (.refl _) (by repeat (first|exact AH.le_refl _|refine le_set ?_ (AH.set_none.2 ⟨n2,hb2⟩)|refine le_del ?_ (AH.set_none.2 ⟨n2,hb2⟩))) (hK _)
end
end Go.Proofs.YtinbjdkibmkgbaaGreatDoor.p
namespace Go.Cn
set_option linter.unusedVariables false
theorem aloopD {T:Nat->Option CFun}{K:Nat->Prop}{fr:AFr}{h:AH}{R:CExit->AQ}{α:Type}{b:MCode}(I:α->AQ)(μ:α->Nat)(x:α)(hi:I x fr h)
  (hr:∀x fr h,I x fr h->wpC T K b fr h (kLp (fun y fr h'=>∃h0:AH,h0.le h'/\(KOk K h'->KOk K h0)/\I y fr h0) μ x R)):W T K (.loop b.toC) fr h R:=
 W.rounds (fun y fr h'=>∃h0:AH,h0.le h'/\(KOk K h'->KOk K h0)/\I y fr h0) μ (fun x fr h' hx=>by
  obtain⟨h0,hl,hk,hi⟩:=hx
  exact W.drop hl hk ((wpC_ok (hr x fr h0 hi)).mono fun e fr h hq=>by cases e<;>exact hq)) x fr h ⟨h,AH.le_refl _,id,hi⟩
theorem toks_tail {t0 t:Nat->Option Tok}{a:Tag×TypeId×Nat×Nat}{L:List (Tag×TypeId×Nat×Nat)}(h:Toks t0 t (a::L)):Toks t0 t L:=
 ⟨h.le,fun i tag E sz k hi=>h.own (i+1) tag E sz k hi,fun i tag E sz k c hi hc=>h.out (i+1) tag E sz k c hi hc,fun i j a b c hij ha hb hc=>h.sep (i+1) (j+1) a b c (by omega) ha hb hc⟩
theorem WkLL.snoc:∀{l m:List (List AV)}{a b:List AV},WkLL l m->WkL a b->WkLL (l++[a]) (m++[b])
 |[],[],_,_,_,h=>⟨h,trivial⟩
 |x::l,y::m,_,_,h,g=>⟨h.1,WkLL.snoc h.2 g⟩
theorem WkLL.refl:∀l:List (List AV),WkLL l l
 |[]=>trivial
 |a::l=>⟨.refl a,WkLL.refl l⟩
theorem WkLL.rows {E E':TypeId}{t:Tag}{l m:List (List AV)}(h:WkLL l m)(hE:l≠[]->E'=E):Wk (.lst E' l t) (.lst E m .no):=.trans (.lstE hE) (.lstL h)
end Go.Cn
namespace Go.Proofs.YtinbjdkibmkgbaaGreatDoor.p
open Go.Proofs Go Go.Cn code
set_option linter.unusedSimpArgs false
set_option linter.unusedVariables false
section
variable {ts:List Tk}{e:Int}(hts:ts.length<=1000000)
include hts in
theorem semi_loop {n:Nat}(K:Nat->Prop)(h:AH)(b:Nat)(hk:¬K b)(t':Nat->Option Tok)(s':St)(fr0:AFr)(R:CExit->AQ)
  (hR:∀fr:AFr,(∀t,t<7->fr t=fr0 t)->R (.exit 2) fr ((h.set b (parO ts e s')).tk t'))(s:St)(hq:semisS ts n s=some s')(f0:fr0 0=.ptr b 0) :
  W T K (.loop l102_0.toC) fr0 ((h.set b (parO ts e s)).tk t') R:=by
 refine aloop (α:=Nat×St) (fun x fr h1=>(∀t,t<7->fr t=fr0 t)/\semisS ts x.1 x.2=some s'/\h1=(h.set b (parO ts e x.2)).tk t') (fun x=>x.1) (n,s) ⟨fun _ _=>rfl,hq,rfl⟩ ?_
 clear hq
 rintro⟨m,s2⟩ fr h1 ⟨hf,hq,rfl⟩
 simp only at hq
 have g0:fr 0=.ptr b 0:=by rw[hf 0 (by decide),f0]
 cases m with
 |zero=>rw[semisS] at hq;cases hq
 |succ m=>
  rw[semisS] at hq
  simp only[u_C l102_0.eq_1,rn,pevA,seval,g0]
  refine (is_ok [59] s2).use (AH.set_same _ _ _) hk ?_
  cases c2:isS ts [59] s2 with
  |true=>
   rw[c2,if_pos rfl] at hq
   have hlt:=isS_lt c2
   simp only[rn,pevA,seval,g0,parO,w1 (Nat.lt_of_lt_of_le hlt hts),hk]
   refine⟨(m,nextS s2),Nat.lt_succ_self m,fun t ht=>?_,hq,rfl⟩
   rw[<-hf t ht]
   simp only[upd,setA]
   repeat rw[if_neg (by omega)]
  |false=>
   rw[c2,if_neg (by decide)] at hq
   cases hq
   simp only[rn,pevA,seval,g0]
   refine hR _ fun t ht=>?_
   rw[<-hf t ht]
   simp only[upd,setA]
   repeat rw[if_neg (by omega)]
end
end Go.Proofs.YtinbjdkibmkgbaaGreatDoor.p
namespace Go.Proofs.YtinbjdkibmkgbaaGreatDoor.p
open Go.Proofs Go Go.Cn code
set_option linter.unusedSimpArgs false
set_option linter.unusedVariables false
theorem alsR_snoc (l:List Al)(a:Al):alsR l++[alR a]=alsR (l++[a]):=by simp only[alsR_eq,List.map_append,List.map_cons,List.map_nil]
section
variable {ts:List Tk}{e:Int}(hts:ts.length<=1000000)
include hts in
theorem alts_tail {m:Nat}(hm:m<=most)(hE:ExOK ts e m)(K:Nat->Prop)(h:AH)(b b2:Nat)(n2:b2≠b)(hk:¬K b)(hk2:¬K b2)(t0 t2:Nat->Option Tok)(s2 s3:St)(c:Nm)(vs:List Nm)(vV:AV)(pos:Int)(x:Ex)(acc:List Al)(rows:List (List AV))(E:TypeId)(tag:Tag)
  (hs2:s2.i<=ts.length)(hx:exprS ts e m (takeS ts e [45,62] s2)=some (x,s3))(hv:Wk vV (.lst 9 (strC vs) .no))(ho:oneA vV=true)(hw:WkLL rows (alsR acc))(hlen:acc.length<=most)(hT:Toks t0 t2 [(tag,186,10,0)])(fr:AFr)
  (f0:fr 0=.ptr b 0)(f3:fr 3=.lst E rows tag)(f4:fr 4=.ptr b2 0)(R:CExit->AQ)
  (hR:∀(fr:AFr)(rows':List (List AV))(tag':Tag)(t3:Nat->Option Tok)(X:AO),fr 0=.ptr b 0->fr 3=.lst 186 rows' tag'->WkLL rows' (alsR (acc++[(c,vs,x,pos)]))->Toks t0 t3 [(tag',186,10,0)]->R .normal fr (((h.set b (parO ts e (altEnd ts e s3))).set b2 X).tk t3)) :
  wpC T K tl102_4 fr (((h.set b (parO ts e s2)).set b2 (.cells [.str c,vV,.int .i64 0,.int .i64 0,.str [],.int .i64 0,.lst 0 [] .nil,.lst 0 [] .nil,.lst 0 [] .nil,.int .i64 pos] 186)).tk t2) R:=by
 have hc:=hE _ _ _ (takeS_i (e:=e) hs2 [45,62]) hx
 have hwl:=hw.get.1
 rw[alsR_len] at hwl
 obtain⟨xk,xp,xn,xv,xl,xa,xb⟩:=x
 simp only[u_C tl102_4.eq_1,rn,pevA,seval,f0,f3,f4]
 refine (take_ok hts [45,62] s2).use (by simp only[kG,kN,n2,n2.symm]<;>rfl) hk ?_
 simp only[rn,pevA,seval,kN,n2,n2.symm,f0,f3,f4]
 refine hc.use (by simp only[kG,kN,n2,n2.symm]<;>rfl) hk ?_
 simp only[rn,pevA,seval,kN,n2,n2.symm,f0,f3,f4,exR,hk2]
 refine WO.append (i:=0) hT rfl rfl rfl trivial (by decide) (by simp) (by simp only[List.flatten_cons,List.flatten_nil,List.append_nil,List.all_cons,List.all_nil,ho];rfl) (.inr rfl) (fun _=>?_) ?_ fun tag2 t3 hT2=>?_
 ·simp[capOk];unfold most at hlen;omega
 ·simp[big_eq];unfold most at hlen;omega
 have hw2:WkLL (rows++[[AV.str c,vV,.int .i64 xk,.int .i64 xp,.str xn,.int .i64 xv,.lst 171 (exsR xl) .no,.lst 186 (alsR xa) .no,.lst 175 (bisR xb) .no,.int .i64 pos]]) (alsR (acc++[(c,vs,.mk xk xp xn xv xl xa xb,pos)])):=by
  rw[<-alsR_snoc]
  exact hw.snoc ⟨.refl _,hv,.refl _,.refl _,.refl _,.refl _,.refl _,.refl _,.refl _,.refl _,trivial⟩
 simp only[rn,pevA,seval,kN,n2,n2.symm,f0,f3,f4]
 refine (is_ok [59] s3).use (by simp only[kG,kN,n2,n2.symm]<;>rfl) hk ?_
 unfold altEnd at hR
 cases c1:isS ts [59] s3 with
 |true=>
  simp only[c1,Bool.not_true,Bool.false_and,Bool.false_eq_true,if_false] at hR
  simp only[rn,pevA,seval,kN,n2,n2.symm,f0,f3,f4]
  exact hR _ _ _ _ _ f0 rfl hw2 hT2
 |false=>
  simp only[rn,pevA,seval,kN,n2,n2.symm,f0,f3,f4]
  refine (is_ok [125] s3).use (by simp only[kG,kN,n2,n2.symm]<;>rfl) hk ?_
  cases c2:isS ts [125] s3 with
  |true=>
   simp only[c1,c2,Bool.not_true,Bool.and_false,Bool.false_eq_true,if_false] at hR
   simp only[rn,pevA,seval,kN,n2,n2.symm,f0,f3,f4]
   exact hR _ _ _ _ _ f0 rfl hw2 hT2
  |false=>
   simp only[c1,c2,Bool.not_false,Bool.and_true,if_true] at hR
   simp only[rn,pevA,seval,kN,n2,n2.symm,f0,f3,f4]
   refine (wrong_ok s3).use (by simp only[kG,kN,n2,n2.symm]<;>rfl) hk ?_
   simp only[rn,pevA,seval,kN,n2,n2.symm,f0,f3,f4]
   exact hR _ _ _ _ _ f0 rfl hw2 hT2
end
end Go.Proofs.YtinbjdkibmkgbaaGreatDoor.p
namespace Go.Proofs.YtinbjdkibmkgbaaGreatDoor.p
open Go.Proofs Go Go.Cn code
set_option linter.unusedSimpArgs false
set_option linter.unusedVariables false
section
variable {ts:List Tk}{e:Int}(hts:ts.length<=1000000)
include hts in
theorem unders_loop {m:Nat}(K:Nat->Prop)(h:AH)(b b2:Nat)(n2:b2≠b)(hk:¬K b)(hk2:¬K b2)(t0 t1:Nat->Option Tok)(nm:Nm)(po:Int)(vs:List Nm)(s2:St)(lv:AV)(tag:Tag)(hm:m<=most)(R:CExit->AQ)
  (hR:∀(fr:AFr)(E':TypeId)(tag':Tag)(t2:Nat->Option Tok),fr 0=.ptr b 0->fr 3=lv->fr 4=.ptr b2 0->(vs≠[]->E'=9)->Toks t0 t2 [(tag,186,10,0)]->
   R (.exit 5) fr (((h.set b (parO ts e s2)).set b2 (.cells [.str nm,.lst E' (strC vs) tag',.int .i64 0,.int .i64 0,.str [],.int .i64 0,.lst 0 [] .nil,.lst 0 [] .nil,.lst 0 [] .nil,.int .i64 po] 186)).tk t2))
  (sw:St)(hu:undersS ts m [] sw=some (vs,s2))(fr:AFr)(g0:fr 0=.ptr b 0)(g3:fr 3=lv)(g4:fr 4=.ptr b2 0)(hT:Toks t0 t1 [(tag,186,10,0)]) :
  W T K (.loop l102_2.toC) fr (((h.set b (parO ts e sw)).set b2 (.cells [.str nm,.lst 0 [] .nil,.int .i64 0,.int .i64 0,.str [],.int .i64 0,.lst 0 [] .nil,.lst 0 [] .nil,.lst 0 [] .nil,.int .i64 po] 186)).tk t1) R:=by
 refine aloop (α:=Nat×List Nm×St) (fun y fr h1=>fr 0=.ptr b 0/\fr 3=lv/\fr 4=.ptr b2 0/\y.2.1.length+y.1<=most/\undersS ts y.1 y.2.1 y.2.2=some (vs,s2)/\
  ∃E' tag' t2,(y.2.1≠[]->E'=9)/\Toks t0 t2 [(tag',9,1,0),(tag,186,10,0)]/\
   h1=((h.set b (parO ts e y.2.2)).set b2 (.cells [.str nm,.lst E' (strC y.2.1) tag',.int .i64 0,.int .i64 0,.str [],.int .i64 0,.lst 0 [] .nil,.lst 0 [] .nil,.lst 0 [] .nil,.int .i64 po] 186)).tk t2) (fun y=>y.1) (m,[],sw)
  ⟨g0,g3,g4,by simpa using hm,hu,_,.nil,t1,fun h=>absurd rfl h,hT.cons 9 1,rfl⟩ ?_
 clear hu hT g0 g3 g4
 rintro⟨j,va,s5⟩ fr h1 ⟨g0,g3,g4,hB2,hu,E',tag',t2,hE',hT,rfl⟩
 simp only at hB2 hu hE'
 cases j with
 |zero=>rw[undersS] at hu;cases hu
 |succ j=>
  rw[undersS] at hu
  have more:(kindS ts 1 s5 || isS ts [95] s5)=true->undersS ts j (va++[textS ts s5]) (nextS s5)=some (vs,s2)/\s5.i<ts.length:=fun c=>by
   rw[c,if_pos rfl] at hu
   refine⟨hu,?_⟩
   have c':kindS ts 1 s5=true\/isS ts [95] s5=true:=by simpa using c
   rcases c' with c|c
   ·exact kindS_lt c
   ·exact isS_lt c
  simp only[u_C l102_2.eq_1,rn,pevA,seval,g0,g3,g4,kN,n2,n2.symm]
  refine (kind_ok 1 s5).use (by simp only[kG,kN,n2,n2.symm]<;>rfl) hk ?_
  cases c4:kindS ts 1 s5 with
  |true=>
   obtain⟨hu2,hlt⟩:=more (by rw[c4];rfl)
   unfold textS at hu2
   rw[get2 hlt] at hu2
   simp only[e_dregion d102_1,u_L s102_1.eq_1,u_T g102_1.eq_1,rn,pevA,seval,g0,g3,g4,kN,n2,n2.symm,parO,tkC_get hlt]
   refine WO.append (i:=0) hT rfl rfl rfl trivial (by decide) (by simp) rfl (.inr rfl) (fun _=>?_) ?_ fun tag2 t3 hT2=>?_
   ·simp[capOk,strC_len];unfold most at hB2;omega
   ·simp[big_eq,strC_len];unfold most at hB2;omega
   rw[strC_app]
   simp only[e_dregion d102_1,u_L s102_1.eq_1,u_T g102_1.eq_1,rn,pevA,seval,g0,g3,g4,kN,n2,n2.symm,hk,hk2,w1 (Nat.lt_of_lt_of_le hlt hts)]
   exact⟨(j,_,nextS s5),Nat.lt_succ_self j,g0,g3,g4,by show (va++[_]).length+j<=most;simp;omega,hu2,9,tag2,t3,fun _=>rfl,hT2,rfl⟩
  |false=>
   simp only[rn,pevA,seval,g0,g3,g4,kN,n2,n2.symm]
   refine (is_ok [95] s5).use (by simp only[kG,kN,n2,n2.symm]<;>rfl) hk ?_
   cases c5:isS ts [95] s5 with
   |true=>
    obtain⟨hu2,hlt⟩:=more (by rw[c4,c5];rfl)
    unfold textS at hu2
    rw[get2 hlt] at hu2
    simp only[e_dregion d102_1,u_L s102_1.eq_1,u_T g102_1.eq_1,rn,pevA,seval,g0,g3,g4,kN,n2,n2.symm,parO,tkC_get hlt]
    refine WO.append (i:=0) hT rfl rfl rfl trivial (by decide) (by simp) rfl (.inr rfl) (fun _=>?_) ?_ fun tag2 t3 hT2=>?_
    ·simp[capOk,strC_len];unfold most at hB2;omega
    ·simp[big_eq,strC_len];unfold most at hB2;omega
    rw[strC_app]
    simp only[e_dregion d102_1,u_L s102_1.eq_1,u_T g102_1.eq_1,rn,pevA,seval,g0,g3,g4,kN,n2,n2.symm,hk,hk2,w1 (Nat.lt_of_lt_of_le hlt hts)]
    exact⟨(j,_,nextS s5),Nat.lt_succ_self j,g0,g3,g4,by show (va++[_]).length+j<=most;simp;omega,hu2,9,tag2,t3,fun _=>rfl,hT2,rfl⟩
   |false=>
    rw[c4,c5,Bool.false_or,if_neg (by decide)] at hu
    cases hu
    simp only[rn,pevA,seval,g0,g3,g4,kN,n2,n2.symm]
    exact hR _ _ _ _ g0 g3 g4 hE' (toks_tail hT)
end
end Go.Proofs.YtinbjdkibmkgbaaGreatDoor.p
