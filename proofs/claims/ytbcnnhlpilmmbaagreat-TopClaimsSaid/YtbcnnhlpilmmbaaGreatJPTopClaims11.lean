/- Texts that are wanted for PTopClaims.
   Conditions: none. -/
import Derived.Test.YtbcnnhlpilmmbaaGreatJPTopClaims10
set_option maxRecDepth 100000
set_option maxHeartbeats 6400000
namespace Go.Proofs.YtbcnnhlpilmmbaaGreat
open Go Go.RowKit
theorem u6 (t:bl) (p:Pos) (spare:Int) (hp:p.Ok) (hmay:t.may=true) (w:World) (hk:t.kind=4):Calls Tryz.prog 154 #[t.val,p.val,.int .i64 spare] w fun e w'=>e= .returned (au t p spare).val∧Below w.heap.size w w':=by
 obtain⟨sh,kind,key⟩:=t
 obtain⟨pred,pw,curr,cw⟩:=p
 obtain⟨hpw,hcw⟩:=hp
 simp only at hpw hcw
 simp only at hk
 subst hk
 have pj:=fun W=>(show Calls Tryz.prog 57 #[.int .i64 sh,.agg #[.int .i64 4,.int .i64 key]] W _ from bY sh 4 key W)
 rw[show Proofs.YtbcnnhlpilmmbaaGreat.may sh ⟨4,key⟩=true from hmay] at pj
 have HC:=fun W=>lE ⟨sh,4,key⟩ ⟨pred,pw,curr,cw⟩ spare ⟨hpw,hcw⟩ W
 obtain⟨P,hP⟩:∃ P,Pos.link ⟨pred,pw,curr,cw⟩ spare=P:=⟨_,rfl⟩
 have HST:Hid (au ⟨sh,4,key⟩ ⟨pred,pw,curr,cw⟩ spare=P):=Lib.hid (by rw[←hP];unfold au;rw[if_pos (.inl rfl)])
 rw[hP] at HC
 clear hP hmay
 obtain⟨g0,⟨g1,g2,g3⟩,g4,g5,g6,g7,g8⟩:=P
 simp only[cY.val] at HC
 go_enter Tryz.func154,Tryz.ntmps154
 refine bx0 w 85 #[.int .i64 sh,.int .i64 4,.int .i64 key] ?_;rintro C w0 e0 ag fr sb
 have z1:=sb
 revert fr sb;refine bx1 154 #[.int .i64 pred,.int .u64 pw,.int .i64 curr,.int .u64 cw] ?_;rintro w1 xr lpo fr po sb
 have z2:=And.intro sb po
 revert fr po sb;refine bx1 167 #[.bool false,.int .i64 0,.bool false,.int .i64 0,.int .i64 0,.int .u64 0,.int .i64 0,.bool false,.int .i64 0] ?_;rintro w2 n9 AK fr pl po sb
 have z3:=And.intro sb (And.intro po pl)
 revert fr pl po sb;refine bx1 250 #[.int .i64 sh,.int .i64 4,.int .i64 key,.int .i64 pred,.int .u64 pw,.int .i64 curr,.int .u64 cw] ?_;rintro w3 xt Gf fr pc pl po sb
 go_wp2_with fail
 clear e0 xr z1 n9 z2 xt z3
 revert fr pc pl po sb;refine bB (pj _) ?_;rintro e w4 rfl fr pc pl po sb
 go_wp2_with fail
 revert fr pc pl po sb;refine bB (HC _) ?_;rintro e w5 rfl fr pc pl po sb
 have z4:=And.intro sb (And.intro po (And.intro pl pc))
 have hR:=kQ
 revert fr pc po sb;refine ia pl [(0,.bool g0),(1,.int .i64 g1),(2,.bool g2),(3,.int .i64 g3),(4,.int .i64 g4),(5,.int .u64 g5),(6,.int .i64 g6),(7,.bool g7),(8,.int .i64 g8)] ?_;clear pl;rintro w6 e1 fr pl pc po sb
 simp only[stx,sx] at e1 pl
 go_wp2_with fail
 clear z4 e1 hR
 refine bodyPost_ret (v:= .agg #[.bool g0,.int .i64 g1,.bool g2,.int .i64 g3,.int .i64 g4,.int .u64 g5,.int .i64 g6,.bool g7,.int .i64 g8]) (by simp[results,Tryz.results154,go_sem,pl.1]) rfl ⟨by rw[HST.out];rfl,fr.cr⟩
theorem tA (t:bl) (p:Pos) (spare:Int) (hp:p.Ok) (hmay:t.may=true) (w:World) (hk:t.kind=1) (hf:p.found t=false):Calls Tryz.prog 154 #[t.val,p.val,.int .i64 spare] w fun e w'=>e= .returned (au t p spare).val∧Below w.heap.size w w':=by
 obtain⟨sh,kind,key⟩:=t
 obtain⟨pred,pw,curr,cw⟩:=p
 obtain⟨hpw,hcw⟩:=hp
 simp only at hpw hcw
 simp only at hk hf
 subst hk
 have pj:=fun W=>(show Calls Tryz.prog 57 #[.int .i64 sh,.agg #[.int .i64 1,.int .i64 key]] W _ from bY sh 1 key W)
 rw[show Proofs.YtbcnnhlpilmmbaaGreat.may sh ⟨1,key⟩=true from hmay] at pj
 have u7:=fun W=>eX ⟨sh,1,key⟩ ⟨pred,pw,curr,cw⟩ ⟨hpw,hcw⟩ W
 simp only[hf] at u7
 have HC:=fun W=>lE ⟨sh,1,key⟩ ⟨pred,pw,curr,cw⟩ spare ⟨hpw,hcw⟩ W
 obtain⟨P,hP⟩:∃ P,Pos.link ⟨pred,pw,curr,cw⟩ spare=P:=⟨_,rfl⟩
 have HST:Hid (au ⟨sh,1,key⟩ ⟨pred,pw,curr,cw⟩ spare=P):=Lib.hid (by rw[←hP];unfold au;rw[if_pos (.inr ⟨rfl,hf⟩)])
 rw[hP] at HC
 clear hP hmay hf
 obtain⟨g0,⟨g1,g2,g3⟩,g4,g5,g6,g7,g8⟩:=P
 simp only[cY.val] at HC
 go_enter Tryz.func154,Tryz.ntmps154
 refine bx0 w 85 #[.int .i64 sh,.int .i64 1,.int .i64 key] ?_;rintro C w0 e0 ag fr sb
 have z1:=sb
 revert fr sb;refine bx1 154 #[.int .i64 pred,.int .u64 pw,.int .i64 curr,.int .u64 cw] ?_;rintro w1 xr lpo fr po sb
 have z2:=And.intro sb po
 revert fr po sb;refine bx1 167 #[.bool false,.int .i64 0,.bool false,.int .i64 0,.int .i64 0,.int .u64 0,.int .i64 0,.bool false,.int .i64 0] ?_;rintro w2 n9 AK fr pl po sb
 have z3:=And.intro sb (And.intro po pl)
 revert fr pl po sb;refine bx1 250 #[.int .i64 sh,.int .i64 1,.int .i64 key,.int .i64 pred,.int .u64 pw,.int .i64 curr,.int .u64 cw] ?_;rintro w3 xt Gf fr pc pl po sb
 go_wp2_with fail
 clear e0 xr z1 n9 z2 xt z3
 revert fr pc pl po sb;refine bB (pj _) ?_;rintro e w4 rfl fr pc pl po sb
 go_wp2_with fail
 revert fr pc pl po sb;refine bB (u7 _) ?_;rintro e w5 rfl fr pc pl po sb
 go_wp2_with fail
 revert fr pc pl po sb;refine bB (HC _) ?_;rintro e w6 rfl fr pc pl po sb
 have z4:=And.intro sb (And.intro po (And.intro pl pc))
 have hR:=kQ
 revert fr pc po sb;refine ia pl [(0,.bool g0),(1,.int .i64 g1),(2,.bool g2),(3,.int .i64 g3),(4,.int .i64 g4),(5,.int .u64 g5),(6,.int .i64 g6),(7,.bool g7),(8,.int .i64 g8)] ?_;clear pl;rintro w7 e1 fr pl pc po sb
 simp only[stx,sx] at e1 pl
 go_wp2_with fail
 clear z4 e1 hR
 refine bodyPost_ret (v:= .agg #[.bool g0,.int .i64 g1,.bool g2,.int .i64 g3,.int .i64 g4,.int .u64 g5,.int .i64 g6,.bool g7,.int .i64 g8]) (by simp[results,Tryz.results154,go_sem,pl.1]) rfl ⟨by rw[HST.out];rfl,fr.cr⟩
theorem tB (t:bl) (p:Pos) (spare:Int) (hp:p.Ok) (hmay:t.may=true) (w:World) (hk:t.kind=1) (hf:p.found t=true):Calls Tryz.prog 154 #[t.val,p.val,.int .i64 spare] w fun e w'=>e= .returned (au t p spare).val∧Below w.heap.size w w':=by
 obtain⟨sh,kind,key⟩:=t
 obtain⟨pred,pw,curr,cw⟩:=p
 obtain⟨hpw,hcw⟩:=hp
 simp only at hpw hcw
 simp only at hk hf
 subst hk
 have pj:=fun W=>(show Calls Tryz.prog 57 #[.int .i64 sh,.agg #[.int .i64 1,.int .i64 key]] W _ from bY sh 1 key W)
 rw[show Proofs.YtbcnnhlpilmmbaaGreat.may sh ⟨1,key⟩=true from hmay] at pj
 have u7:=fun W=>eX ⟨sh,1,key⟩ ⟨pred,pw,curr,cw⟩ ⟨hpw,hcw⟩ W
 simp only[hf] at u7
 have HC:=fun W=>jY false W
 obtain⟨P,hP⟩:∃ P,told false=P:=⟨_,rfl⟩
 have HST:Hid (au ⟨sh,1,key⟩ ⟨pred,pw,curr,cw⟩ spare=P):=Lib.hid (by rw[←hP];unfold au;rw[if_neg (by simp[hf]),if_neg (by simp),if_neg (by simp)];simp)
 rw[hP] at HC
 clear hP hmay hf
 obtain⟨g0,⟨g1,g2,g3⟩,g4,g5,g6,g7,g8⟩:=P
 simp only[cY.val] at HC
 go_enter Tryz.func154,Tryz.ntmps154
 refine bx0 w 85 #[.int .i64 sh,.int .i64 1,.int .i64 key] ?_;rintro C w0 e0 ag fr sb
 have z1:=sb
 revert fr sb;refine bx1 154 #[.int .i64 pred,.int .u64 pw,.int .i64 curr,.int .u64 cw] ?_;rintro w1 xr lpo fr po sb
 have z2:=And.intro sb po
 revert fr po sb;refine bx1 167 #[.bool false,.int .i64 0,.bool false,.int .i64 0,.int .i64 0,.int .u64 0,.int .i64 0,.bool false,.int .i64 0] ?_;rintro w2 n9 AK fr pl po sb
 have z3:=And.intro sb (And.intro po pl)
 revert fr pl po sb;refine bx1 250 #[.int .i64 sh,.int .i64 1,.int .i64 key,.int .i64 pred,.int .u64 pw,.int .i64 curr,.int .u64 cw] ?_;rintro w3 xt Gf fr pc pl po sb
 go_wp2_with fail
 clear e0 xr z1 n9 z2 xt z3
 revert fr pc pl po sb;refine bB (pj _) ?_;rintro e w4 rfl fr pc pl po sb
 go_wp2_with fail
 revert fr pc pl po sb;refine bB (u7 _) ?_;rintro e w5 rfl fr pc pl po sb
 go_wp2_with fail
 revert fr pc pl po sb;refine bB (HC _) ?_;rintro e w6 rfl fr pc pl po sb
 have z4:=And.intro sb (And.intro po (And.intro pl pc))
 have hR:=kQ
 revert fr pc po sb;refine ia pl [(0,.bool g0),(1,.int .i64 g1),(2,.bool g2),(3,.int .i64 g3),(4,.int .i64 g4),(5,.int .u64 g5),(6,.int .i64 g6),(7,.bool g7),(8,.int .i64 g8)] ?_;clear pl;rintro w7 e1 fr pl pc po sb
 simp only[stx,sx] at e1 pl
 go_wp2_with fail
 clear z4 e1 hR
 refine bodyPost_ret (v:= .agg #[.bool g0,.int .i64 g1,.bool g2,.int .i64 g3,.int .i64 g4,.int .u64 g5,.int .i64 g6,.bool g7,.int .i64 g8]) (by simp[results,Tryz.results154,go_sem,pl.1]) rfl ⟨by rw[HST.out];rfl,fr.cr⟩
theorem tD (t:bl) (p:Pos) (spare:Int) (hp:p.Ok) (hmay:t.may=true) (w:World) (hk:t.kind=2) (hf:p.found t=true):Calls Tryz.prog 154 #[t.val,p.val,.int .i64 spare] w fun e w'=>e= .returned (au t p spare).val∧Below w.heap.size w w':=by
 obtain⟨sh,kind,key⟩:=t
 obtain⟨pred,pw,curr,cw⟩:=p
 obtain⟨hpw,hcw⟩:=hp
 simp only at hpw hcw
 simp only at hk hf
 subst hk
 have pj:=fun W=>(show Calls Tryz.prog 57 #[.int .i64 sh,.agg #[.int .i64 2,.int .i64 key]] W _ from bY sh 2 key W)
 rw[show Proofs.YtbcnnhlpilmmbaaGreat.may sh ⟨2,key⟩=true from hmay] at pj
 have u7:=fun W=>eX ⟨sh,2,key⟩ ⟨pred,pw,curr,cw⟩ ⟨hpw,hcw⟩ W
 simp only[hf] at u7
 have HC:=fun W=>lF ⟨sh,2,key⟩ ⟨pred,pw,curr,cw⟩ ⟨hpw,hcw⟩ W
 obtain⟨P,hP⟩:∃ P,Pos.mark ⟨pred,pw,curr,cw⟩=P:=⟨_,rfl⟩
 have HST:Hid (au ⟨sh,2,key⟩ ⟨pred,pw,curr,cw⟩ spare=P):=Lib.hid (by rw[←hP];unfold au;rw[if_neg (by simp),if_pos ⟨rfl,hf⟩])
 rw[hP] at HC
 clear hP hmay hf
 obtain⟨g0,⟨g1,g2,g3⟩,g4,g5,g6,g7,g8⟩:=P
 simp only[cY.val] at HC
 go_enter Tryz.func154,Tryz.ntmps154
 refine bx0 w 85 #[.int .i64 sh,.int .i64 2,.int .i64 key] ?_;rintro C w0 e0 ag fr sb
 have z1:=sb
 revert fr sb;refine bx1 154 #[.int .i64 pred,.int .u64 pw,.int .i64 curr,.int .u64 cw] ?_;rintro w1 xr lpo fr po sb
 have z2:=And.intro sb po
 revert fr po sb;refine bx1 167 #[.bool false,.int .i64 0,.bool false,.int .i64 0,.int .i64 0,.int .u64 0,.int .i64 0,.bool false,.int .i64 0] ?_;rintro w2 n9 AK fr pl po sb
 have z3:=And.intro sb (And.intro po pl)
 revert fr pl po sb;refine bx1 250 #[.int .i64 sh,.int .i64 2,.int .i64 key,.int .i64 pred,.int .u64 pw,.int .i64 curr,.int .u64 cw] ?_;rintro w3 xt Gf fr pc pl po sb
 go_wp2_with fail
 clear e0 xr z1 n9 z2 xt z3
 revert fr pc pl po sb;refine bB (pj _) ?_;rintro e w4 rfl fr pc pl po sb
 go_wp2_with fail
 revert fr pc pl po sb;refine bB (u7 _) ?_;rintro e w5 rfl fr pc pl po sb
 go_wp2_with fail
 revert fr pc pl po sb;refine bB (HC _) ?_;rintro e w6 rfl fr pc pl po sb
 have z4:=And.intro sb (And.intro po (And.intro pl pc))
 have hR:=kQ
 revert fr pc po sb;refine ia pl [(0,.bool g0),(1,.int .i64 g1),(2,.bool g2),(3,.int .i64 g3),(4,.int .i64 g4),(5,.int .u64 g5),(6,.int .i64 g6),(7,.bool g7),(8,.int .i64 g8)] ?_;clear pl;rintro w7 e1 fr pl pc po sb
 simp only[stx,sx] at e1 pl
 go_wp2_with fail
 clear z4 e1 hR
 refine bodyPost_ret (v:= .agg #[.bool g0,.int .i64 g1,.bool g2,.int .i64 g3,.int .i64 g4,.int .u64 g5,.int .i64 g6,.bool g7,.int .i64 g8]) (by simp[results,Tryz.results154,go_sem,pl.1]) rfl ⟨by rw[HST.out];rfl,fr.cr⟩
theorem tF (t:bl) (p:Pos) (spare:Int) (hp:p.Ok) (hmay:t.may=true) (w:World) (hk:t.kind=2) (hf:p.found t=false):Calls Tryz.prog 154 #[t.val,p.val,.int .i64 spare] w fun e w'=>e= .returned (au t p spare).val∧Below w.heap.size w w':=by
 obtain⟨sh,kind,key⟩:=t
 obtain⟨pred,pw,curr,cw⟩:=p
 obtain⟨hpw,hcw⟩:=hp
 simp only at hpw hcw
 simp only at hk hf
 subst hk
 have pj:=fun W=>(show Calls Tryz.prog 57 #[.int .i64 sh,.agg #[.int .i64 2,.int .i64 key]] W _ from bY sh 2 key W)
 rw[show Proofs.YtbcnnhlpilmmbaaGreat.may sh ⟨2,key⟩=true from hmay] at pj
 have u7:=fun W=>eX ⟨sh,2,key⟩ ⟨pred,pw,curr,cw⟩ ⟨hpw,hcw⟩ W
 simp only[hf] at u7
 have HC:=fun W=>jY false W
 obtain⟨P,hP⟩:∃ P,told false=P:=⟨_,rfl⟩
 have HST:Hid (au ⟨sh,2,key⟩ ⟨pred,pw,curr,cw⟩ spare=P):=Lib.hid (by rw[←hP];unfold au;rw[if_neg (by simp),if_neg (by simp[hf]),if_neg (by simp)];simp)
 rw[hP] at HC
 clear hP hmay hf
 obtain⟨g0,⟨g1,g2,g3⟩,g4,g5,g6,g7,g8⟩:=P
 simp only[cY.val] at HC
 go_enter Tryz.func154,Tryz.ntmps154
 refine bx0 w 85 #[.int .i64 sh,.int .i64 2,.int .i64 key] ?_;rintro C w0 e0 ag fr sb
 have z1:=sb
 revert fr sb;refine bx1 154 #[.int .i64 pred,.int .u64 pw,.int .i64 curr,.int .u64 cw] ?_;rintro w1 xr lpo fr po sb
 have z2:=And.intro sb po
 revert fr po sb;refine bx1 167 #[.bool false,.int .i64 0,.bool false,.int .i64 0,.int .i64 0,.int .u64 0,.int .i64 0,.bool false,.int .i64 0] ?_;rintro w2 n9 AK fr pl po sb
 have z3:=And.intro sb (And.intro po pl)
 revert fr pl po sb;refine bx1 250 #[.int .i64 sh,.int .i64 2,.int .i64 key,.int .i64 pred,.int .u64 pw,.int .i64 curr,.int .u64 cw] ?_;rintro w3 xt Gf fr pc pl po sb
 go_wp2_with fail
 clear e0 xr z1 n9 z2 xt z3
 revert fr pc pl po sb;refine bB (pj _) ?_;rintro e w4 rfl fr pc pl po sb
 go_wp2_with fail
 revert fr pc pl po sb;refine bB (u7 _) ?_;rintro e w5 rfl fr pc pl po sb
 go_wp2_with fail
 revert fr pc pl po sb;refine bB (HC _) ?_;rintro e w6 rfl fr pc pl po sb
 have z4:=And.intro sb (And.intro po (And.intro pl pc))
 have hR:=kQ
 revert fr pc po sb;refine ia pl [(0,.bool g0),(1,.int .i64 g1),(2,.bool g2),(3,.int .i64 g3),(4,.int .i64 g4),(5,.int .u64 g5),(6,.int .i64 g6),(7,.bool g7),(8,.int .i64 g8)] ?_;clear pl;rintro w7 e1 fr pl pc po sb
 simp only[stx,sx] at e1 pl
 go_wp2_with fail
 clear z4 e1 hR
 refine bodyPost_ret (v:= .agg #[.bool g0,.int .i64 g1,.bool g2,.int .i64 g3,.int .i64 g4,.int .u64 g5,.int .i64 g6,.bool g7,.int .i64 g8]) (by simp[results,Tryz.results154,go_sem,pl.1]) rfl ⟨by rw[HST.out];rfl,fr.cr⟩
theorem tG (t:bl) (p:Pos) (spare:Int) (hp:p.Ok) (hmay:t.may=true) (w:World) (hk:t.kind=5):Calls Tryz.prog 154 #[t.val,p.val,.int .i64 spare] w fun e w'=>e= .returned (au t p spare).val∧Below w.heap.size w w':=by
 obtain⟨sh,kind,key⟩:=t
 obtain⟨pred,pw,curr,cw⟩:=p
 obtain⟨hpw,hcw⟩:=hp
 simp only at hpw hcw
 simp only at hk
 subst hk
 have pj:=fun W=>(show Calls Tryz.prog 57 #[.int .i64 sh,.agg #[.int .i64 5,.int .i64 key]] W _ from bY sh 5 key W)
 rw[show Proofs.YtbcnnhlpilmmbaaGreat.may sh ⟨5,key⟩=true from hmay] at pj
 have HC:=fun W=>xq ⟨sh,5,key⟩ ⟨pred,pw,curr,cw⟩ ⟨hpw,hcw⟩ W
 obtain⟨P,hP⟩:∃ P,Pos.take ⟨pred,pw,curr,cw⟩ ⟨sh,5,key⟩=P:=⟨_,rfl⟩
 have HST:Hid (au ⟨sh,5,key⟩ ⟨pred,pw,curr,cw⟩ spare=P):=Lib.hid (by rw[←hP];unfold au;rw[if_neg (by simp),if_neg (by simp),if_pos rfl])
 rw[hP] at HC
 clear hP hmay
 obtain⟨g0,⟨g1,g2,g3⟩,g4,g5,g6,g7,g8⟩:=P
 simp only[cY.val] at HC
 go_enter Tryz.func154,Tryz.ntmps154
 refine bx0 w 85 #[.int .i64 sh,.int .i64 5,.int .i64 key] ?_;rintro C w0 e0 ag fr sb
 have z1:=sb
 revert fr sb;refine bx1 154 #[.int .i64 pred,.int .u64 pw,.int .i64 curr,.int .u64 cw] ?_;rintro w1 xr lpo fr po sb
 have z2:=And.intro sb po
 revert fr po sb;refine bx1 167 #[.bool false,.int .i64 0,.bool false,.int .i64 0,.int .i64 0,.int .u64 0,.int .i64 0,.bool false,.int .i64 0] ?_;rintro w2 n9 AK fr pl po sb
 have z3:=And.intro sb (And.intro po pl)
 revert fr pl po sb;refine bx1 250 #[.int .i64 sh,.int .i64 5,.int .i64 key,.int .i64 pred,.int .u64 pw,.int .i64 curr,.int .u64 cw] ?_;rintro w3 xt Gf fr pc pl po sb
 go_wp2_with fail
 clear e0 xr z1 n9 z2 xt z3
 revert fr pc pl po sb;refine bB (pj _) ?_;rintro e w4 rfl fr pc pl po sb
 go_wp2_with fail
 revert fr pc pl po sb;refine bB (HC _) ?_;rintro e w5 rfl fr pc pl po sb
 have z4:=And.intro sb (And.intro po (And.intro pl pc))
 have hR:=kQ
 revert fr pc po sb;refine ia pl [(0,.bool g0),(1,.int .i64 g1),(2,.bool g2),(3,.int .i64 g3),(4,.int .i64 g4),(5,.int .u64 g5),(6,.int .i64 g6),(7,.bool g7),(8,.int .i64 g8)] ?_;clear pl;rintro w6 e1 fr pl pc po sb
 simp only[stx,sx] at e1 pl
 go_wp2_with fail
 clear z4 e1 hR
 refine bodyPost_ret (v:= .agg #[.bool g0,.int .i64 g1,.bool g2,.int .i64 g3,.int .i64 g4,.int .u64 g5,.int .i64 g6,.bool g7,.int .i64 g8]) (by simp[results,Tryz.results154,go_sem,pl.1]) rfl ⟨by rw[HST.out];rfl,fr.cr⟩
theorem tI (t:bl) (p:Pos) (spare:Int) (hp:p.Ok) (hmay:t.may=true) (w:World) (hk:t.kind=3) (hf:p.found t=true):Calls Tryz.prog 154 #[t.val,p.val,.int .i64 spare] w fun e w'=>e= .returned (au t p spare).val∧Below w.heap.size w w':=by
 obtain⟨sh,kind,key⟩:=t
 obtain⟨pred,pw,curr,cw⟩:=p
 obtain⟨hpw,hcw⟩:=hp
 simp only at hpw hcw
 simp only at hk hf
 subst hk
 have pj:=fun W=>(show Calls Tryz.prog 57 #[.int .i64 sh,.agg #[.int .i64 3,.int .i64 key]] W _ from bY sh 3 key W)
 rw[show Proofs.YtbcnnhlpilmmbaaGreat.may sh ⟨3,key⟩=true from hmay] at pj
 have u7:=fun W=>eX ⟨sh,3,key⟩ ⟨pred,pw,curr,cw⟩ ⟨hpw,hcw⟩ W
 simp only[hf] at u7
 have HC:=fun W=>jY true W
 obtain⟨P,hP⟩:∃ P,told true=P:=⟨_,rfl⟩
 have HST:Hid (au ⟨sh,3,key⟩ ⟨pred,pw,curr,cw⟩ spare=P):=Lib.hid (by rw[←hP];unfold au;rw[if_neg (by simp),if_neg (by simp),if_neg (by simp),hf];rfl)
 rw[hP] at HC
 clear hP hmay hf
 obtain⟨g0,⟨g1,g2,g3⟩,g4,g5,g6,g7,g8⟩:=P
 simp only[cY.val] at HC
 go_enter Tryz.func154,Tryz.ntmps154
 refine bx0 w 85 #[.int .i64 sh,.int .i64 3,.int .i64 key] ?_;rintro C w0 e0 ag fr sb
 have z1:=sb
 revert fr sb;refine bx1 154 #[.int .i64 pred,.int .u64 pw,.int .i64 curr,.int .u64 cw] ?_;rintro w1 xr lpo fr po sb
 have z2:=And.intro sb po
 revert fr po sb;refine bx1 167 #[.bool false,.int .i64 0,.bool false,.int .i64 0,.int .i64 0,.int .u64 0,.int .i64 0,.bool false,.int .i64 0] ?_;rintro w2 n9 AK fr pl po sb
 have z3:=And.intro sb (And.intro po pl)
 revert fr pl po sb;refine bx1 250 #[.int .i64 sh,.int .i64 3,.int .i64 key,.int .i64 pred,.int .u64 pw,.int .i64 curr,.int .u64 cw] ?_;rintro w3 xt Gf fr pc pl po sb
 go_wp2_with fail
 clear e0 xr z1 n9 z2 xt z3
 revert fr pc pl po sb;refine bB (pj _) ?_;rintro e w4 rfl fr pc pl po sb
 go_wp2_with fail
 revert fr pc pl po sb;refine bB (u7 _) ?_;rintro e w5 rfl fr pc pl po sb
 go_wp2_with fail
 revert fr pc pl po sb;refine bB (HC _) ?_;rintro e w6 rfl fr pc pl po sb
 have z4:=And.intro sb (And.intro po (And.intro pl pc))
 have hR:=kQ
 revert fr pc po sb;refine ia pl [(0,.bool g0),(1,.int .i64 g1),(2,.bool g2),(3,.int .i64 g3),(4,.int .i64 g4),(5,.int .u64 g5),(6,.int .i64 g6),(7,.bool g7),(8,.int .i64 g8)] ?_;clear pl;rintro w7 e1 fr pl pc po sb
 simp only[stx,sx] at e1 pl
 go_wp2_with fail
 clear z4 e1 hR
 refine bodyPost_ret (v:= .agg #[.bool g0,.int .i64 g1,.bool g2,.int .i64 g3,.int .i64 g4,.int .u64 g5,.int .i64 g6,.bool g7,.int .i64 g8]) (by simp[results,Tryz.results154,go_sem,pl.1]) rfl ⟨by rw[HST.out];rfl,fr.cr⟩
theorem tJ (t:bl) (p:Pos) (spare:Int) (hp:p.Ok) (hmay:t.may=true) (w:World) (hk:t.kind=3) (hf:p.found t=false):Calls Tryz.prog 154 #[t.val,p.val,.int .i64 spare] w fun e w'=>e= .returned (au t p spare).val∧Below w.heap.size w w':=by
 obtain⟨sh,kind,key⟩:=t
 obtain⟨pred,pw,curr,cw⟩:=p
 obtain⟨hpw,hcw⟩:=hp
 simp only at hpw hcw
 simp only at hk hf
 subst hk
 have pj:=fun W=>(show Calls Tryz.prog 57 #[.int .i64 sh,.agg #[.int .i64 3,.int .i64 key]] W _ from bY sh 3 key W)
 rw[show Proofs.YtbcnnhlpilmmbaaGreat.may sh ⟨3,key⟩=true from hmay] at pj
 have u7:=fun W=>eX ⟨sh,3,key⟩ ⟨pred,pw,curr,cw⟩ ⟨hpw,hcw⟩ W
 simp only[hf] at u7
 have HC:=fun W=>jY false W
 obtain⟨P,hP⟩:∃ P,told false=P:=⟨_,rfl⟩
 have HST:Hid (au ⟨sh,3,key⟩ ⟨pred,pw,curr,cw⟩ spare=P):=Lib.hid (by rw[←hP];unfold au;rw[if_neg (by simp),if_neg (by simp),if_neg (by simp),hf];rfl)
 rw[hP] at HC
 clear hP hmay hf
 obtain⟨g0,⟨g1,g2,g3⟩,g4,g5,g6,g7,g8⟩:=P
 simp only[cY.val] at HC
 go_enter Tryz.func154,Tryz.ntmps154
 refine bx0 w 85 #[.int .i64 sh,.int .i64 3,.int .i64 key] ?_;rintro C w0 e0 ag fr sb
 have z1:=sb
 revert fr sb;refine bx1 154 #[.int .i64 pred,.int .u64 pw,.int .i64 curr,.int .u64 cw] ?_;rintro w1 xr lpo fr po sb
 have z2:=And.intro sb po
 revert fr po sb;refine bx1 167 #[.bool false,.int .i64 0,.bool false,.int .i64 0,.int .i64 0,.int .u64 0,.int .i64 0,.bool false,.int .i64 0] ?_;rintro w2 n9 AK fr pl po sb
 have z3:=And.intro sb (And.intro po pl)
 revert fr pl po sb;refine bx1 250 #[.int .i64 sh,.int .i64 3,.int .i64 key,.int .i64 pred,.int .u64 pw,.int .i64 curr,.int .u64 cw] ?_;rintro w3 xt Gf fr pc pl po sb
 go_wp2_with fail
 clear e0 xr z1 n9 z2 xt z3
 revert fr pc pl po sb;refine bB (pj _) ?_;rintro e w4 rfl fr pc pl po sb
 go_wp2_with fail
 revert fr pc pl po sb;refine bB (u7 _) ?_;rintro e w5 rfl fr pc pl po sb
 go_wp2_with fail
 revert fr pc pl po sb;refine bB (HC _) ?_;rintro e w6 rfl fr pc pl po sb
 have z4:=And.intro sb (And.intro po (And.intro pl pc))
 have hR:=kQ
 revert fr pc po sb;refine ia pl [(0,.bool g0),(1,.int .i64 g1),(2,.bool g2),(3,.int .i64 g3),(4,.int .i64 g4),(5,.int .u64 g5),(6,.int .i64 g6),(7,.bool g7),(8,.int .i64 g8)] ?_;clear pl;rintro w7 e1 fr pl pc po sb
 simp only[stx,sx] at e1 pl
 go_wp2_with fail
 clear z4 e1 hR
 refine bodyPost_ret (v:= .agg #[.bool g0,.int .i64 g1,.bool g2,.int .i64 g3,.int .i64 g4,.int .u64 g5,.int .i64 g6,.bool g7,.int .i64 g8]) (by simp[results,Tryz.results154,go_sem,pl.1]) rfl ⟨by rw[HST.out];rfl,fr.cr⟩
theorem gl (t:bl) (p:Pos) (spare:Int) (hp:p.Ok) (hmay:t.may=true) (w:World):Calls Tryz.prog 154 #[t.val,p.val,.int .i64 spare] w fun e w'=>e= .returned (au t p spare).val∧Below w.heap.size w w':=by
 have hr:=(bl.rng hmay).kind
 rcases(by omega:t.kind=1∨t.kind=2∨t.kind=3∨t.kind=4∨t.kind=5) with hk | hk | hk | hk | hk
 ·cases hf:p.found t with
  | true=>exact tB t p spare hp hmay w hk hf
  | false=>exact tA t p spare hp hmay w hk hf
 ·cases hf:p.found t with
  | true=>exact tD t p spare hp hmay w hk hf
  | false=>exact tF t p spare hp hmay w hk hf
 ·cases hf:p.found t with
  | true=>exact tI t p spare hp hmay w hk hf
  | false=>exact tJ t p spare hp hmay w hk hf
 ·exact u6 t p spare hp hmay w hk
 ·exact tG t p spare hp hmay w hk
theorem mm (p:cY) (ho:0≤p.old∧p.old<18446744073709551616) (hq:p.now=true) (w:World):Calls Tryz.prog 155 #[p.val] w fun e w'=>e= .returned (.bool p.claimed)∧Below w.heap.size w w':=by
 obtain⟨g0,⟨g1,g2,g3⟩,g4,g5,g6,g7,g8⟩:=p
 simp only at ho hq
 subst hq
 simp only[cY.val]
 have HST:Hid (cY.claimed ⟨true,⟨g1,g2,g3⟩,g4,g5,g6,g7,g8⟩=false):=Lib.hid (by unfold cY.claimed;rfl)
 go_enter Tryz.func155,Tryz.ntmps155
 refine bx0 w 167 #[.bool true,.int .i64 g1,.bool g2,.int .i64 g3,.int .i64 g4,.int .u64 g5,.int .i64 g6,.bool g7,.int .i64 g8] ?_;rintro C w0 e0 ag fr sb
 go_wp2_with fail
 clear e0
 go_ret
 exact⟨by rw[HST.out];rfl,fr.cr⟩
theorem pq (p:cY) (ho:0≤p.old∧p.old<18446744073709551616) (hq:p.now=true) (w:World):Calls Tryz.prog 119 #[p.val] w fun e w'=>e= .returned (.int .u64 p.word)∧Below w.heap.size w w':=by
 obtain⟨g0,⟨g1,g2,g3⟩,g4,g5,g6,g7,g8⟩:=p
 simp only at ho hq
 subst hq
 simp only[cY.val]
 go_enter Tryz.func119,Tryz.ntmps119
 refine bx0 w 167 #[.bool true,.int .i64 g1,.bool g2,.int .i64 g3,.int .i64 g4,.int .u64 g5,.int .i64 g6,.bool g7,.int .i64 g8] ?_;rintro C w0 e0 ag fr sb
 go_wp2_with fail
 clear e0
 go_ret
 exact⟨rfl,fr.cr⟩
theorem pv (p:cY) (ho:0≤p.old∧p.old<18446744073709551616) (hq:p.now=true) (aJ:Int) (w:World):Calls Tryz.prog 103 #[p.val,.int .i64 aJ] w fun e w'=>(∃ ec:Int,e= .returned (.tuple #[.int .u64 (p.desc aJ),.int .i64 ec]))∧Below w.heap.size w w':=by
 obtain⟨g0,⟨g1,g2,g3⟩,g4,g5,g6,g7,g8⟩:=p
 simp only at ho hq
 subst hq
 simp only[cY.val]
 go_enter Tryz.func103,Tryz.ntmps103
 refine bx0 w 167 #[.bool true,.int .i64 g1,.bool g2,.int .i64 g3,.int .i64 g4,.int .u64 g5,.int .i64 g6,.bool g7,.int .i64 g8] ?_;rintro C w0 e0 ag fr sb
 go_wp2_with fail
 clear e0
 go_ret2
 exact⟨⟨5,rfl⟩,fr.cr⟩
theorem lG (p:cY) (ho:0≤p.old∧p.old<18446744073709551616) (hq:p.now=false) (w:World):Calls Tryz.prog 155 #[p.val] w fun e w'=>e= .returned (.bool p.claimed)∧Below w.heap.size w w':=by
 obtain⟨g0,⟨g1,g2,g3⟩,g4,g5,g6,g7,g8⟩:=p
 simp only at ho hq
 subst hq
 simp only[cY.val]
 have HG:=fun W=>aW g5 W ho
 have mf:=(aQ g5).ver
 obtain⟨W0,hW0⟩:∃ W0,ao g5=W0:=⟨_,rfl⟩
 rw[hW0] at HG mf
 have hfl:∀ W,(Instr.field 198 W0.val 3).run Tryz.prog W= .ok (.int .i64 W0.claim) W:=fun W=>yq _ _ _ _ _ W
 have HST:Hid (cY.claimed ⟨false,⟨g1,g2,g3⟩,g4,g5,g6,g7,g8⟩=(W0.claim !=0)):=Lib.hid (by unfold cY.claimed;simp only[hW0];simp[bne];rfl)
 clear hW0
 go_enter Tryz.func155,Tryz.ntmps155
 refine bx0 w 167 #[.bool false,.int .i64 g1,.bool g2,.int .i64 g3,.int .i64 g4,.int .u64 g5,.int .i64 g6,.bool g7,.int .i64 g8] ?_;rintro C w0 e0 ag fr sb
 go_wp2_with fail
 clear e0
 revert fr sb;refine bB (HG _) ?_;rintro e w1 rfl fr sb
 go_wp2_with fail
 go_ret
 exact⟨by rw[HST.out];rfl,fr.cr⟩
theorem oa (p:cY) (ho:0≤p.old∧p.old<18446744073709551616) (hq:p.now=false) (w:World):Calls Tryz.prog 119 #[p.val] w fun e w'=>e= .returned (.int .u64 p.word)∧Below w.heap.size w w':=by
 obtain⟨g0,⟨g1,g2,g3⟩,g4,g5,g6,g7,g8⟩:=p
 simp only at ho hq
 subst hq
 simp only[cY.val]
 have HG:=fun W=>aW g5 W ho
 have mf:=(aQ g5).ver
 obtain⟨W0,hW0⟩:∃ W0,ao g5=W0:=⟨_,rfl⟩
 rw[hW0] at HG mf
 have AJ:=fun W=>lV W0 0 g6 g7 W (by omega)
 have Ny:=fun W=>mS (W0.claimed 0 g6 g7) W mf
 have HP:=iA (W0.claimed 0 g6 g7).free _ rfl
 have HST:Hid (cY.word ⟨false,⟨g1,g2,g3⟩,g4,g5,g6,g7,g8⟩=dS (W0.claimed 0 g6 g7).free):=Lib.hid (by unfold cY.word;simp only[hW0];rfl)
 generalize W0.claimed 0 g6 g7=W1 at *
 generalize W1.free=W2 at *
 generalize dS W2=x at *
 clear hW0
 go_enter Tryz.func119,Tryz.ntmps119
 refine bx0 w 167 #[.bool false,.int .i64 g1,.bool g2,.int .i64 g3,.int .i64 g4,.int .u64 g5,.int .i64 g6,.bool g7,.int .i64 g8] ?_;rintro C w0 e0 ag fr sb
 go_wp2_with fail
 clear e0
 revert fr sb;refine bK ?_;intro fr sb
 obtain⟨q1,qi⟩:=aY sb
 refine ax sb 14 [([0,1,3,4,5,6],2),([],7),([],8),([],9)] [10,11,12,13] [14] (by kernel_rfl) (by kernel_rfl) ?_
 refine ai ?_;simp only[ox];repeat(go_big_quiet_step (fail))
 refine dI rfl (fun K' hK'=> ?_);go_simp
 revert fr sb;with_reducible refine bB (HG _) ?_;rintro e w1 rfl fr sb
 refine hK' _ _ (cj sb) ?_;clear hK' K'
 refine ai ?_;simp only[ox];repeat(go_big_quiet_step (fail))
 refine dI rfl (fun K' hK'=> ?_);go_simp
 revert fr sb;with_reducible refine bB (AJ _) ?_;rintro e w2 rfl fr sb
 refine hK' _ _ (cj sb) ?_;clear hK' K'
 refine ai ?_;simp only[ox];repeat(go_big_quiet_step (fail))
 refine dI rfl (fun K' hK'=> ?_);go_simp
 revert fr sb;with_reducible refine bB (Ny _) ?_;rintro e w3 rfl fr sb
 refine hK' _ _ (cj sb) ?_;clear hK' K'
 refine ai ?_;simp only[ox];repeat(go_big_quiet_step (fail))
 refine dI rfl (fun K' hK'=> ?_);go_simp
 revert fr sb;with_reducible refine bB (HP _) ?_;rintro e w4 ⟨ec,rfl⟩ fr sb
 refine hK' _ _ (cj sb) ?_;clear hK' K'
 refine af ?_;try simp only[ox]
 repeat(go_big_quiet_step (fail))
 refine wpQuiet_nil ?_
 refine ae _ _ _ (by kernel_rfl) ?_;try simp only[ox]
 clear qi q1
 go_wp2_with fail
 refine NoPanic.normal ?_
 go_wp2_with fail
 go_ret
 exact⟨by rw[HST.out];rfl,fr.cr⟩
theorem oc (p:cY) (ho:0≤p.old∧p.old<18446744073709551616) (hq:p.now=false) (aJ:Int) (w:World):Calls Tryz.prog 103 #[p.val,.int .i64 aJ] w fun e w'=>(∃ ec:Int,e= .returned (.tuple #[.int .u64 (p.desc aJ),.int .i64 ec]))∧Below w.heap.size w w':=by
 obtain⟨g0,⟨g1,g2,g3⟩,g4,g5,g6,g7,g8⟩:=p
 simp only at ho hq
 subst hq
 simp only[cY.val]
 have HG:=fun W=>aW g5 W ho
 have mf:=(aQ g5).ver
 obtain⟨W0,hW0⟩:∃ W0,ao g5=W0:=⟨_,rfl⟩
 rw[hW0] at HG mf
 have hfl:∀ W,(Instr.field 198 W0.val 4).run Tryz.prog W= .ok (.int .i64 W0.ver) W:=fun W=>Bo _ _ _ _ _ W
 have HP:=fun W=>(show Calls Tryz.prog 100 #[.agg #[.int .i64 aJ,.int .i64 g4,.int .i64 W0.ver,.int .i64 g6,.bool g7,.int .i64 2,.int .i64 g3]] W _ from kD ⟨aJ,g4,W0.ver,g6,g7,2,g3⟩ _ rfl W)
 have HST:Hid (cY.desc ⟨false,⟨g1,g2,g3⟩,g4,g5,g6,g7,g8⟩ aJ=cv ⟨aJ,g4,W0.ver,g6,g7,2,g3⟩):=Lib.hid (by unfold cY.desc;simp only[hW0];rfl)
 generalize cv ⟨aJ,g4,W0.ver,g6,g7,2,g3⟩=x at *
 clear hW0
 go_enter Tryz.func103,Tryz.ntmps103
 refine bx0 w 167 #[.bool false,.int .i64 g1,.bool g2,.int .i64 g3,.int .i64 g4,.int .u64 g5,.int .i64 g6,.bool g7,.int .i64 g8] ?_;rintro C w0 e0 ag fr sb
 go_wp2_with fail
 clear e0
 revert fr sb;refine bK ?_;intro fr sb
 obtain⟨q1,qi⟩:=aY sb
 refine ax sb 19 [([0,1,2,3,4,7,8,9,10,11,12,13],5),([6,14],15)] [16,17,18] [19] (by kernel_rfl) (by kernel_rfl) ?_
 refine ai ?_;simp only[ox];repeat(go_big_quiet_step (fail))
 refine dI rfl (fun K' hK'=> ?_);go_simp
 revert fr sb;with_reducible refine bB (HG _) ?_;rintro e w1 rfl fr sb
 refine hK' _ _ (cj sb) ?_;clear hK' K'
 refine ai ?_;simp only[ox];repeat(go_big_quiet_step (fail))
 refine dI rfl (fun K' hK'=> ?_);go_simp
 revert fr sb;with_reducible refine bB (HP _) ?_;rintro e w2 ⟨ec,rfl⟩ fr sb
 refine hK' _ _ (cj sb) ?_;clear hK' K'
 refine af ?_;try simp only[ox]
 repeat(go_big_quiet_step (fail))
 refine wpQuiet_nil ?_
 refine ae _ _ _ (by kernel_rfl) ?_;try simp only[ox]
 clear qi q1
 go_wp2_with fail
 refine NoPanic.normal ?_
 go_wp2_with fail
 go_ret2
 exact⟨⟨ec,by rw[HST.out];rfl⟩,fr.cr⟩
theorem eF (p:cY) (ho:0≤p.old∧p.old<18446744073709551616) (w:World):Calls Tryz.prog 155 #[p.val] w fun e w'=>e= .returned (.bool p.claimed)∧Below w.heap.size w w':=by
 cases hq:p.now with
 | true=>exact mm p ho hq w
 | false=>exact lG p ho hq w
theorem r7 (p:cY) (ho:0≤p.old∧p.old<18446744073709551616) (w:World):Calls Tryz.prog 119 #[p.val] w fun e w'=>e= .returned (.int .u64 p.word)∧Below w.heap.size w w':=by
 cases hq:p.now with
 | true=>exact pq p ho hq w
 | false=>exact oa p ho hq w
theorem m9 (p:cY) (ho:0≤p.old∧p.old<18446744073709551616) (aJ:Int) (w:World):Calls Tryz.prog 103 #[p.val,.int .i64 aJ] w fun e w'=>(∃ ec:Int,e= .returned (.tuple #[.int .u64 (p.desc aJ),.int .i64 ec]))∧Below w.heap.size w w':=by
 cases hq:p.now with
 | true=>exact pv p ho hq aJ w
 | false=>exact oc p ho hq aJ w
structure nM (L:Ly) (p:Pos):Prop where
 pred:1≤p.pred∧p.pred≤L.nd+4
 curr:0≤p.curr∧p.curr≤L.nd
 pw:(0≤p.pw∧p.pw<18446744073709551616)∧(ao p.pw).next≤L.nd
 cw:(0≤p.cw∧p.cw<18446744073709551616)∧(ao p.cw).next≤L.nd
structure eV (L:Ly) (u:Int) (f:aB) (N:Int):Prop where
 from_:1≤f.from_∧f.from_≤L.nd+4
 me:f.me=u
 at_:0≤f.at_∧f.at_≤6
 pos:f.ab=false→nM L f.pos
 ab:f.ab=true→f.limit<f.tries∧f.pos=⟨0,0,0,0⟩
 tries:0≤f.tries∧f.tries≤N
 moved:0≤f.moved∧f.moved≤N
 aO:Nodes L f.aO∧(f.aO.length:Int)≤N
structure fF (L:Ly) (f:aB):Prop where
 ab:f.ab=false
 curr:1≤f.at_→1≤f.pos.curr
 cl:f.at_=4→tl L f.cl
variable {L:Ly}
theorem eV.mono {u:Int} {f:aB} {N N':Int} (h:eV L u f N) (hN:N≤N'):eV L u f N':=⟨h.from_,h.me,h.at_,h.pos,h.ab,by have:=h.tries;omega,by have:=h.moved;omega,h.aO.1,by have:=h.aO.2;omega⟩
theorem iD (L:Ly) (hL:L.Ok):(ao 0).next≤L.nd:=by have:=hL.nd;simp[ao];omega
theorem xu (hL:L.Ok) (u:Int) {t:bl} (ht:t.may=true) (limit:Int):eV L u (.new L u t.head t.kO limit) 0∧fF L (.new L u t.head t.kO limit):=by
 have hk:=(bl.rng ht).key
 have hn:=hL.nd
 have hh:0≤t.head∧t.head≤3:=by unfold bl.head;split<;>omega
 have hp:1≤L.head t.head∧L.head t.head≤L.nd+4:=by simp only[Ly.head];omega
 exact⟨⟨hp,rfl,by simp[aB.new],fun _=>⟨hp,by simp only[aB.new];omega,⟨by simp[aB.new],iD L hL⟩,⟨by simp[aB.new],iD L hL⟩⟩,fun h=>by simp[aB.new] at h,by simp[aB.new],by simp[aB.new],⟨fun x hx=>by simp[aB.new] at hx,by simp[aB.new]⟩⟩,rfl,fun h=>by simp[aB.new] at h,fun h=>by simp[aB.new] at h⟩
structure zt (L:Ly) (u N:Int) (r:Bool×aB):Prop where
 ok:eV L u r.2 N
 live:r.1=false→fF L r.2
theorem tK {u N:Int} {f:aB} (h1:1≤f.from_∧f.from_≤L.nd+4) (h2:f.me=u) (h3:0≤f.at_∧f.at_≤6) (h4:nM L f.pos) (h5:0≤f.tries∧f.tries≤N) (h6:0≤f.moved∧f.moved≤N+1) (h7:Nodes L f.aO∧(f.aO.length:Int)≤N+1):eV L u f.aR (N+1)∧f.aR.ab=f.over:=by
 refine⟨⟨h1,h2,h3,fun e=> ?_,fun e=> ?_,by simp only[aB.aR];omega,h6,h7⟩,rfl⟩
 ·have e':f.over=false:=e
  simp only[aB.aR,e',Bool.false_eq_true,if_false];exact h4
 ·have e':f.over=true:=e
  refine⟨?_,by simp only[aB.aR,e',if_true]⟩
  unfold aB.over at e'
  exact of_decide_eq_true e'
theorem xw {u N:Int} {f:aB} (h:eV L u f N) (ha:f.ab=false):eV L u f.aR (N+1)∧f.aR.ab=f.over:=
 tK h.from_ h.me h.at_ (h.pos ha) h.tries (by have:=h.moved;omega) ⟨h.aO.1,by have:=h.aO.2;omega⟩
theorem tL {u N:Int} {f:aB} (h:eV L u f N) (ha:f.ab=false) (hN:0≤N):eV L u f.anew N∧fF L f.anew:=by
 have hp:=h.pos ha
 exact⟨⟨h.from_,h.me,by simp[aB.anew],fun _=>⟨h.from_,hp.curr,hp.pw,hp.cw⟩,fun e=>by simp[aB.anew,ha] at e,h.tries,by simp only[aB.anew];omega,h.aO⟩,ha,fun e=>by simp[aB.anew] at e,fun e=>by simp[aB.anew] at e⟩
theorem tM (hL:L.Ok) {u N:Int} {f:aB} (h:eV L u f N) (ha:f.ab=false) (hN:0≤N) {x:Int} (hx:(0≤x∧x<18446744073709551616)∧(ao x).next≤L.nd):zt L u N (f.take x):=by
 have hp:=h.pos ha
 have hw:=(aQ x).next
 unfold aB.take
 split
 ·have:=tL h ha hN
  exact⟨this.1,fun _=>this.2⟩
 ·refine⟨⟨h.from_,h.me,by simp,fun _=>⟨hp.pred,by simp only;omega,hx,⟨by simp,iD L hL⟩⟩,fun e=>by simp[ha] at e,h.tries,h.moved,h.aO⟩,fun e=>⟨ha,fun _=> ?_,fun e=>by simp at e⟩⟩
  simp only[decide_eq_false_iff_not] at e
  simp only
  omega
theorem px (hL:L.Ok) {u N:Int} {f:aB} (h:eV L u f N) (ha:f.ab=false) (hN:0≤N) {x:Int} (hx:(0≤x∧x<18446744073709551616)∧(ao x).next≤L.nd):zt L u (N+1) (f.cI x):=by
 have h1:=xw h ha
 unfold aB.cI
 split
 ·exact⟨h1.1,fun e=>by simp at e⟩
 ·rename_i e
  exact tM hL h1.1 (by rw[h1.2];simpa using e) (by omega) hx
theorem D8 {u N:Int} {f:aB} (h:eV L u f N) (ha:f.ab=false) (hN:0≤N):eV L u (f.move L).2.2 (N+1)∧((f.move L).2.1=true→(f.move L).2.2={ f with moved:=f.moved+1 }∧(f.move L).1=false)∧((f.move L).2.1=false→(f.move L).1=false→fF L (f.move L).2.2):=by
 have h2:=h.moved
 have hm1:eV L u { f with moved:=f.moved+1 } (N+1):=⟨h.from_,h.me,h.at_,h.pos,h.ab,by have:=h.tries;simp only;omega,by simp only;omega,h.aO.1,by have:=h.aO.2;simp only;omega⟩
 unfold aB.move
 split
 ·exact⟨hm1,fun _=>⟨rfl,rfl⟩,fun e=>by simp at e⟩
 ·have ht:=tK (L:=L) (u:=u) (N:=N) (f:={ f with moved:=f.moved+1 }) h.from_ h.me h.at_ (h.pos ha) h.tries (by simp only;omega) ⟨h.aO.1,by have:=h.aO.2;simp only;omega⟩
  split
  ·exact⟨ht.1,fun e=>by simp at e,fun _ e=>by simp at e⟩
  ·rename_i e
   have:=tL ht.1 (by rw[ht.2];exact Bool.eq_false_iff.2 e) (by omega)
   exact⟨this.1,fun e=>by simp at e,fun _ _=>this.2⟩
theorem D9 {u N:Int} {f:aB} (h:eV L u f N) (hl:fF L f) (h3:f.at_=3) {x:Int} (hx:(0≤x∧x<18446744073709551616)∧(ao x).next≤L.nd):zt L u N (f.look x):=by
 have hp:=h.pos hl.ab
 have hc:=hl.curr (by omega)
 have key:∀ (a:Int) (c:fo),0≤a∧a≤6→eV L u { f with pos:={ f.pos with cw:=x },at_:=a,cl:=c } N:=fun a c ha=>⟨h.from_,h.me,ha,fun _=>⟨hp.pred,hp.curr,hp.pw,hx⟩,fun e=>by simp[hl.ab] at e,h.tries,h.moved,h.aO⟩
 unfold aB.look
 simp only
 split
 ·split
  ·exact⟨by have:=key f.at_ f.cl h.at_;exact this,fun e=>by simp at e⟩
  ·exact⟨key 6 f.cl (by omega),fun _=>⟨hl.ab,fun _=>hc,fun e=>by simp at e⟩⟩
 ·split
  ·exact⟨key 4 _ (by omega),fun _=>⟨hl.ab,fun _=>hc,fun _=>tn ⟨hc,by have:=hp.curr;omega⟩⟩⟩
  ·split
   ·exact⟨key 4 _ (by omega),fun _=>⟨hl.ab,fun _=>hc,fun _=>tn hp.pred⟩⟩
   ·exact⟨key 5 f.cl (by omega),fun _=>⟨hl.ab,fun _=>hc,fun e=>by simp at e⟩⟩
theorem BW {f:aB} (hp:nM L f.pos) (_:L.Ok):(ao f.cut).next≤L.nd:=by
 have h1:=(aQ f.pos.cw).next
 unfold aB.cut
 rw[dA (Wd.lT (aQ _) (by omega))]
 exact hp.cw.2
variable {M:ML} {m:Mm}
theorem gm {u N:Int} {f:aB} (hL:M.L.Ok) (hm:dY M m) (hu:0≤u∧u<M.L.th) (hN:0≤N) (h:eV M.L u f N) (hl:fF M.L f):Safe M m (aw M m f).2.1∧zt M.L u (N+1) ((aw M m f).1,(aw M m f).2.2):=by
 have hn:=hL.nd
 have hp:=h.pos hl.ab
 have hw:∀ a,1≤a→a≤M.L.nd+4→(0≤ld M m a∧ld M m a<18446744073709551616)∧(ao (ld M m a)).next≤M.L.nd:=fun a h1 h2=>⟨oB hm.rng a,hm.word a h1 h2⟩
 have up:∀ {r:Bool×aB},zt M.L u N r→zt M.L u (N+1) r:=fun g=>⟨g.ok.mono (by omega),g.live⟩
 have hcr:∀ x:Int,0≤x∧x≤M.L.nd→0≤x∧x<18446744073709551616:=fun x hx=>by omega
 unfold aw
 split
 ·simp only
  refine⟨.refl hm,?_⟩
  split
  ·exact px hL h hl.ab hN (hw _ hp.pred.1 hp.pred.2)
  ·exact up (tM hL h hl.ab hN (hw _ hp.pred.1 hp.pred.2))
 ·split
  ·refine⟨?_,up ⟨⟨h.from_,h.me,by simp,h.pos,h.ab,h.tries,h.moved,h.aO⟩,fun _=>⟨hl.ab,fun _=>hl.curr (by omega),fun e=>by simp at e⟩⟩⟩
   rw[h.me]
   exact mY hm (hcr _ hp.curr) hL hu (by omega)
  ·split
   ·simp only
    split
    ·exact⟨.refl hm,px hL h hl.ab hN (hw _ hp.pred.1 hp.pred.2)⟩
    ·exact⟨.refl hm,up ⟨⟨h.from_,h.me,by simp,h.pos,h.ab,h.tries,h.moved,h.aO⟩,fun _=>⟨hl.ab,fun _=>hl.curr (by omega),fun e=>by simp at e⟩⟩⟩
   ·split
    ·rename_i h3
     have hc:=hl.curr (by omega)
     exact⟨.refl hm,up (D9 h hl h3 (hw _ hc (by have:=hp.curr;omega)))⟩
    ·split
     ·rename_i h4
      have hc:=tp hL hm (hl.cl h4)
      simp only
      split
      ·rename_i hr
       have h0:eV M.L u { f with cl:=(a9 M m f.cl).2.2,at_:=0 } N:=⟨h.from_,h.me,by simp,h.pos,h.ab,h.tries,h.moved,h.aO⟩
       have ht:=xw h0 hl.ab
       refine⟨hc.1,ht.1,fun e=>⟨by rw[ht.2];exact e,fun e2=>by simp[aB.aR] at e2,fun e2=>by simp[aB.aR] at e2⟩⟩
      ·rename_i hr
       exact⟨hc.1,up ⟨⟨h.from_,h.me,h.at_,h.pos,h.ab,h.tries,h.moved,h.aO⟩,fun _=>⟨hl.ab,hl.curr,fun _=>hc.2 (by simpa using hr)⟩⟩⟩
     ·split
      ·rename_i h5
       have hc:=hl.curr (by omega)
       have hcut:=BW hp hL
       split
       ·have h6:eV M.L u { f with aO:=f.aO++[f.pos.curr] } (N+1):=by
         have h7:=h.aO
         refine⟨h.from_,h.me,h.at_,h.pos,h.ab,by have:=h.tries;simp only;omega,by have:=h.moved;simp only;omega,h7.1.app (fun x hx=>by simp at hx;subst hx;exact⟨hc,hp.curr.2⟩),by simp;omega⟩
        have hmv:eV M.L u (({ f with aO:=f.aO++[f.pos.curr] }:aB).move M.L).2.2 (N+1)∧(((({ f with aO:=f.aO++[f.pos.curr] }:aB).move M.L).2.1=true→(({ f with aO:=f.aO++[f.pos.curr] }:aB).move M.L).2.2.ab=false))∧((({ f with aO:=f.aO++[f.pos.curr] }:aB).move M.L).2.1=false→(({ f with aO:=f.aO++[f.pos.curr] }:aB).move M.L).1=false→fF M.L (({ f with aO:=f.aO++[f.pos.curr] }:aB).move M.L).2.2):=by
         have h8:=h.moved
         have h9:=h.tries
         have h10:=h6.aO
         unfold aB.move
         split
         ·exact⟨⟨h.from_,h.me,h.at_,h.pos,h.ab,by simp only;omega,by simp only;omega,h10⟩,fun _=>hl.ab,fun e=>by simp at e⟩
         ·have ht:=tK (L:=M.L) (u:=u) (N:=N) (f:={ f with aO:=f.aO++[f.pos.curr],moved:=f.moved+1 }) h.from_ h.me h.at_ hp h9 (by simp only;omega) h10
          split
          ·exact⟨ht.1,fun e=>by simp at e,fun _ e=>by simp at e⟩
          ·rename_i e
           have:=tL ht.1 (by rw[ht.2];exact Bool.eq_false_iff.2 e) (by omega)
           exact⟨this.1,fun e=>by simp at e,fun _ _=>this.2⟩
        simp only
        split
        ·rename_i hr
         exact⟨gy hm (eo _) hL (by have:=hp.pred;omega) hcut,tM hL hmv.1 (hmv.2.1 hr) (by omega) ⟨eo _,hcut⟩⟩
        ·rename_i hr
         exact⟨gy hm (eo _) hL (by have:=hp.pred;omega) hcut,hmv.1,hmv.2.2 (by simpa using hr)⟩
       ·have h0:eV M.L u { f with at_:=0 } N:=⟨h.from_,h.me,by simp,h.pos,h.ab,h.tries,h.moved,h.aO⟩
        have ht:=xw h0 hl.ab
        exact⟨.refl hm,ht.1,fun e=>⟨by rw[ht.2];exact e,fun e2=>by simp[aB.aR] at e2,fun e2=>by simp[aB.aR] at e2⟩⟩
      ·have hat:=h.at_
       have hc:=hl.curr (by omega)
       have hcn:=hp.curr
       have h0:eV M.L u { f with pos:={ f.pos with pred:=f.pos.curr },at_:=0 } N:=⟨h.from_,h.me,by simp,fun _=>⟨⟨hc,by simp only;omega⟩,hcn,hp.pw,hp.cw⟩,fun e=>by simp[hl.ab] at e,h.tries,h.moved,h.aO⟩
       have hmv:=D8 h0 hl.ab hN
       simp only
       refine⟨?_,hmv.1,fun e=> ?_⟩
       ·rw[h.me]
        exact mY hm (hcr _ hp.curr) hL hu (by omega)
       ·cases hq:(({ f with pos:={ f.pos with pred:=f.pos.curr },at_:=0 }:aB).move M.L).2.1 with
        | true=>
         have:=(hmv.2.1 hq).1
         rw[this]
         exact⟨hl.ab,fun e=>by simp at e,fun e=>by simp at e⟩
        | false=>exact hmv.2.2 hq e
def fO (w:World) (C:Nat→Nat) (c sg b:Nat) (pf pc pp:Value) (f:bq):Prop:=SB w C c b 187 #[.pointer (some ⟨sg,0,none⟩),.int .i64 f.res.code,.bool f.res.ok,.int .i64 f.res.val,.bool f.failed,.int .i64 f.tries,.int .i64 f.task.sh,.int .i64 f.task.kind,.int .i64 f.task.key,.int .i64 f.most,.int .i64 f.at_,.bool f.plan.now,.int .i64 f.plan.res.code,.bool f.plan.res.ok,.int .i64 f.plan.res.val,.int .i64 f.plan.addr,.int .u64 f.plan.old,.int .i64 f.plan.next,.bool f.plan.mark,.int .i64 f.plan.pops,pf,pc,pp]
structure dr (w:World) (C:Nat→Nat) (c sg b:Nat) (L:Ly) (f:bq):Prop where
 ex:∃ pf pc pp,fO w C c sg b pf pc pp f∧(f.at_=0→∃ bf,pf= .pointer (some ⟨bf,0,none⟩)∧ff w C c bf L f.find)∧
  (f.at_=1→∃ bc,pc= .pointer (some ⟨bc,0,none⟩)∧gD w C c bc L f.cl)∧(f.at_=2→∃ bp,pp= .pointer (some ⟨bp,0,none⟩)∧jV w C c sg bp f.az)
def Ml:List (Option TypeId):=[some 187,some 157,some 3,some 230,some 236]
variable {w w':World} {C C':Nat→Nat} {K:Nat→Prop} {T:List (Option TypeId)} {c sg b:Nat}
theorem dr.mv {f:bq} (h:dr w C c sg b L f) (k:Fr C K T w w') (a:aF w.heap.size C C') (hk:¬ K c∨dJ Ml T):dr w' C' c sg b L f:=by
 obtain⟨pf,pc,pp,h1,h2,h3,h4⟩:=h.ex
 refine⟨pf,pc,pp,SB.mv h1 k a (hk.imp id (fun h=>h _ (by decide))),fun e=> ?_,fun e=> ?_,fun e=> ?_⟩
 ·obtain⟨bf,e1,e2⟩:=h2 e
  exact⟨bf,e1,e2.mv k a (hk.imp id (fun h x hx=>h x (by revert x;decide)))⟩
 ·obtain⟨bf,e1,e2⟩:=h3 e
  exact⟨bf,e1,e2.mv k a (hk.imp id (fun h=>h _ (by decide)))⟩
 ·obtain⟨bf,e1,e2⟩:=h4 e
  exact⟨bf,e1,e2.mv k a (hk.imp id (fun h x hx=>h x (by revert x;decide)))⟩
instance {w:World} {C:Nat→Nat} {c sg b:Nat} {L:Ly} {f:bq}:Mv (dr w C c sg b L f) w C Ml (fun w' C'=>dr w' C' c sg b L f):=⟨fun h k a hk=>h.mv k a (.inr hk)⟩
structure OW (C:Nat→Nat) (K:Nat→Prop) (LX:List (Option TypeId)) (v:Value) (P:World→(Nat→Nat)→Prop) (w:World) (e:Ending) (w':World):Prop where
 ret:e= .returned v
 own:∃ C',aF w.heap.size C C'∧P w' C'
 fr:Fr C K LX w w'
structure bq.Ok (f:bq) (N:Int):Prop where
 may:f.task.may=true
 tries:0≤f.tries∧f.tries≤N
 most:0≤f.most∧f.most≤1000
theorem bl.py {t:bl} (h:t.may=true):0≤t.head∧t.head≤1000:=by
 obtain⟨-,-,h3⟩:=bl.rng h
 unfold bl.head
 split<;>omega
variable {s:Nat} {me:Int} {t:cg}
theorem r8 {f:bq} {pf pc pp:Value} (hL:L.Ok) (hst:aq w C s sg L me t) (sb:fO w C c sg b pf pc pp f) (hok:f.Ok 1000000):Calls Tryz.prog 163 #[.pointer (some ⟨b,0,none⟩)] w (OW C (K0 c) [some 187] (.tuple #[]) (fun w' C'=>dr w' C' c sg b L (f.hZ L me)) w):=by
 obtain⟨⟨A,n,cap,hn,st,hrow⟩,hme,hsp,hsm⟩:=hst
 unfold fO at sb
 obtain⟨hmay,htr,hmo⟩:=hok
 obtain⟨⟨rc,ro,rv⟩,failed,tries,⟨sh,kind,key⟩,most,at_,⟨g0,⟨g1,g2,g3⟩,g4,g5,g6,g7,g8⟩,find,cl,az⟩:=f
 simp only at sb hmay htr hmo
 have hkr:=(bl.rng hmay).key
 have Fm:=bl.py hmay
 simp only at hkr
 have pz:∀ W,Calls Tryz.prog 127 #[.agg #[.int .i64 sh,.int .i64 kind,.int .i64 key]] W fun e w'=>e= .returned (.agg #[.int .i64 (bl.head ⟨sh,kind,key⟩),.int .i64 (bl.kO ⟨sh,kind,key⟩)])∧Below W.heap.size W w':=fun W=>ly ⟨sh,kind,key⟩ (by simp only;omega) W
 obtain⟨hd,hhd⟩:∃ hd,bl.head ⟨sh,kind,key⟩=hd:=⟨_,rfl⟩
 obtain⟨pk,hpk⟩:∃ pk,bl.kO ⟨sh,kind,key⟩=pk:=⟨_,rfl⟩
 simp only[hhd,hpk] at pz Fm
 have e6:wrap64 (most - tries)=most - tries:=IntWalk.wrap64_in _ (by omega)
 have IN:=fun C' W=>o7 L hL me hd pk (most - tries) Fm C' c W
 have HST:Hid (bq.hZ L me (⟨⟨rc,ro,rv⟩,failed,tries,⟨sh,kind,key⟩,most,at_,⟨g0,⟨g1,g2,g3⟩,g4,g5,g6,g7,g8⟩,find,cl,az⟩:bq)=(⟨⟨rc,ro,rv⟩,failed,tries,⟨sh,kind,key⟩,most,0,⟨g0,⟨g1,g2,g3⟩,g4,g5,g6,g7,g8⟩,.new L me hd pk (most - tries),cl,az⟩:bq)):=Lib.hid (by unfold bq.hZ;simp only[hhd,hpk])
 clear hhd hpk hn hrow hsm
 go_enter Tryz.func163,Tryz.ntmps163
 have fr:=Fr.refl C (K0 c) [some 187] w
 have ag:=aF.refl w.heap.size C
 go_wp2_with fail
 revert st;revert sb;revert fr;refine bB (pz _) ?_;rintro e w1 rfl fr sb st
 have z1:=And.intro sb st
 revert fr sb st;refine bx1 195 #[.int .i64 hd,.int .i64 pk] ?_;rintro w2 IP Mn fr pb sb st
 go_wp2_with fail
 clear IP z1
 revert fr pb sb st;refine bK ?_;intro fr pb sb st
 obtain⟨q1,q2,q3,qi⟩:=db sb st pb
 refine a8 sb st pb 29 [] [0,1,2,3,4,5,6,7,8,9,10,11,12,13,14,15,16,17,18,19,20,21,22,23,24,25,26,27,28] [29,30,31,32,33,34,35] (by kernel_rfl) (by kernel_rfl) ?_
 refine af ?_;try simp only[ox]
 repeat(go_big_quiet_step (fail))
 refine wpQuiet_nil ?_
 refine ae _ _ _ (by kernel_rfl) ?_;try simp only[ox]
 clear qi q1 q2 q3
 go_wp2_with fail
 revert ag fr pb sb st;refine gd (IN C _) ?_;rintro w3 bf C3 ag fr hfi pb sb st
 have z2:=And.intro sb (And.intro st pb)
 revert fr hfi pb st;refine st1 sb 10 (.int .i64 0) (fun _ h=>h) ag ?_;clear sb;rintro w4 e1 fr sb hfi pb st
 simp only[sx] at sb
 have z3:=And.intro sb (And.intro st pb)
 revert fr hfi pb st;refine st1 sb 20 (.pointer (some ⟨bf,0,none⟩)) (fun _ h=>h) ag ?_;clear sb;rintro w5 e2 fr sb hfi pb st
 simp only[sx] at sb
 go_wp2_with fail
 refine NoPanic.normal ?_
 go_wp2_with fail
 clear z2 e1 z3 e2
 go_end0
 exact⟨rfl,⟨_,ag,by rw[HST.out];exact⟨_,_,_,sb,fun _=>⟨bf,rfl,hfi⟩,fun h=>by simp at h,fun h=>by simp at h⟩⟩,fr⟩
theorem iF {f:bq} {pf pc pp:Value} (sb:fO w C c sg b pf pc pp f) (k:Int) (hk:0≤k∧k≤1000000) (ht:0≤f.tries∧f.tries≤1000000):Calls Tryz.prog 153 #[.pointer (some ⟨b,0,none⟩),.int .i64 k] w (OW C (K0 c) [some 187] (.bool (f.over k)) (fun w' C'=>C'=C∧fO w' C c sg b pf pc pp (f.aR k)) w):=by
 unfold fO at sb
 obtain⟨⟨rc,ro,rv⟩,failed,tries,⟨sh,kind,key⟩,most,at_,⟨g0,⟨g1,g2,g3⟩,g4,g5,g6,g7,g8⟩,find,cl,az⟩:=f
 simp only at sb ht
 have e6:wrap64 (tries+k)=tries+k:=IntWalk.wrap64_in _ (by omega)
 obtain⟨ov,hov⟩:∃ ov,bq.over (⟨⟨rc,ro,rv⟩,failed,tries,⟨sh,kind,key⟩,most,at_,⟨g0,⟨g1,g2,g3⟩,g4,g5,g6,g7,g8⟩,find,cl,az⟩:bq) k=ov:=⟨_,rfl⟩
 have d2:decide (tries+k>most)=ov:=hov
 have HST:Hid (bq.aR (⟨⟨rc,ro,rv⟩,failed,tries,⟨sh,kind,key⟩,most,at_,⟨g0,⟨g1,g2,g3⟩,g4,g5,g6,g7,g8⟩,find,cl,az⟩:bq) k=(⟨⟨rc,ro,rv⟩,ov,tries+k,⟨sh,kind,key⟩,most,at_,⟨g0,⟨g1,g2,g3⟩,g4,g5,g6,g7,g8⟩,find,cl,az⟩:bq)):=Lib.hid (by unfold bq.aR;rw[hov])
 rw[hov]
 clear hov
 go_enter Tryz.func153,Tryz.ntmps153
 have fr:=Fr.refl C (K0 c) [some 187] w
 have ag:=aF.refl w.heap.size C
 have z1:=sb
 revert fr;refine J6 w C ?_;refine st1 sb 5 (.int .i64 (tries+k)) (fun _ h=>h) ag ?_;clear sb;rintro w1 e1 fr sb -
 simp only[sx] at sb
 go_wp2_with fail
 clear z1 e1
 revert fr sb;refine bK ?_;intro fr sb
 obtain⟨q1,qi⟩:=aY sb
 refine ax sb 12 [] [0,1,2,3,4,5,6,7,8,9,10,11] [12] (by kernel_rfl) (by kernel_rfl) ?_
 refine af ?_;try simp only[ox]
 repeat(go_big_quiet_step (fail))
 refine wpQuiet_nil ?_
 refine ae _ _ _ (by kernel_rfl) ?_;try simp only[ox]
 clear qi q1
 have z2:=sb
 revert fr;refine J6 (w1.drew) C ?_;refine lC sb 4 (.bool ov) (fun _ h=>h) ag ?_;clear sb;rintro w2 e1 fr sb -
 simp only[sx] at sb
 go_wp2_with fail
 try rw[e1]
 refine NoPanic.normal ?_
 go_wp2_with fail
 clear z2 e1
 go_ret
 exact⟨rfl,⟨C,ag,rfl,by rw[HST.out];exact sb⟩,fr⟩
end Go.Proofs.YtbcnnhlpilmmbaaGreat
