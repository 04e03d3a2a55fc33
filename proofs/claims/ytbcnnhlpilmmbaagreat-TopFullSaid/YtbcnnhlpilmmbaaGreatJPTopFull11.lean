/- Texts that are wanted for PTopFull.
   Conditions: none. -/
import Derived.Test.YtbcnnhlpilmmbaaGreatJPTopFull10
set_option maxRecDepth 100000
set_option maxHeartbeats 6400000
namespace Go.Proofs.YtbcnnhlpilmmbaaGreat
open Go Go.RowKit
theorem uy (t:bq) (p:Pos) (spare:Int) (hp:p.Ok) (hmay:t.may=true) (w:World) (hk:t.kind=4):Calls Tryz.prog 154 #[t.val,p.val,.int .i64 spare] w fun e w'=>e= .returned (aw t p spare).val∧Below w.heap.size w w':=by
 obtain⟨sh,kind,key⟩:=t
 obtain⟨pred,pw,curr,cw⟩:=p
 obtain⟨hpw,hcw⟩:=hp
 simp only at hpw hcw
 simp only at hk
 subst hk
 have oH:=fun W=>(show Calls Tryz.prog 57 #[.int .i64 sh,.agg #[.int .i64 4,.int .i64 key]] W _ from bW sh 4 key W)
 rw[show Proofs.YtbcnnhlpilmmbaaGreat.may sh ⟨4,key⟩=true from hmay] at oH
 have HC:=fun W=>kV ⟨sh,4,key⟩ ⟨pred,pw,curr,cw⟩ spare ⟨hpw,hcw⟩ W
 obtain⟨P,hP⟩:∃ P,Pos.link ⟨pred,pw,curr,cw⟩ spare=P:=⟨_,rfl⟩
 have HST:Hid (aw ⟨sh,4,key⟩ ⟨pred,pw,curr,cw⟩ spare=P):=Lib.hid (by rw[←hP];unfold aw;rw[if_pos (.inl rfl)])
 rw[hP] at HC
 clear hP hmay
 obtain⟨g0,⟨g1,g2,g3⟩,g4,g5,g6,g7,g8⟩:=P
 simp only[dw.val] at HC
 go_enter Tryz.func154,Tryz.ntmps154
 refine bx0 w 85 #[.int .i64 sh,.int .i64 4,.int .i64 key] ?_;rintro C w0 e0 ag fr sb
 have z1:=sb
 revert fr sb;refine bx1 154 #[.int .i64 pred,.int .u64 pw,.int .i64 curr,.int .u64 cw] ?_;rintro w1 wB lpo fr po sb
 have z2:=And.intro sb po
 revert fr po sb;refine bx1 167 #[.bool false,.int .i64 0,.bool false,.int .i64 0,.int .i64 0,.int .u64 0,.int .i64 0,.bool false,.int .i64 0] ?_;rintro w2 nF zG fr pl po sb
 have z3:=And.intro sb (And.intro po pl)
 revert fr pl po sb;refine bx1 250 #[.int .i64 sh,.int .i64 4,.int .i64 key,.int .i64 pred,.int .u64 pw,.int .i64 curr,.int .u64 cw] ?_;rintro w3 wC Fw fr pc pl po sb
 go_wp2_with fail
 clear e0 wB z1 nF z2 wC z3
 revert fr pc pl po sb;refine bk (oH _) ?_;rintro e w4 rfl fr pc pl po sb
 go_wp2_with fail
 revert fr pc pl po sb;refine bk (HC _) ?_;rintro e w5 rfl fr pc pl po sb
 have z4:=And.intro sb (And.intro po (And.intro pl pc))
 have hR:=ko
 revert fr pc po sb;refine gO pl [(0,.bool g0),(1,.int .i64 g1),(2,.bool g2),(3,.int .i64 g3),(4,.int .i64 g4),(5,.int .u64 g5),(6,.int .i64 g6),(7,.bool g7),(8,.int .i64 g8)] ?_;clear pl;rintro w6 e1 fr pl pc po sb
 simp only[stx,sx] at e1 pl
 go_wp2_with fail
 clear z4 e1 hR
 refine bodyPost_ret (v:= .agg #[.bool g0,.int .i64 g1,.bool g2,.int .i64 g3,.int .i64 g4,.int .u64 g5,.int .i64 g6,.bool g7,.int .i64 g8]) (by simp[results,Tryz.results154,go_sem,pl.1]) rfl ⟨by rw[HST.out];rfl,fr.b4⟩
theorem sM (t:bq) (p:Pos) (spare:Int) (hp:p.Ok) (hmay:t.may=true) (w:World) (hk:t.kind=1) (hf:p.found t=false):Calls Tryz.prog 154 #[t.val,p.val,.int .i64 spare] w fun e w'=>e= .returned (aw t p spare).val∧Below w.heap.size w w':=by
 obtain⟨sh,kind,key⟩:=t
 obtain⟨pred,pw,curr,cw⟩:=p
 obtain⟨hpw,hcw⟩:=hp
 simp only at hpw hcw
 simp only at hk hf
 subst hk
 have oH:=fun W=>(show Calls Tryz.prog 57 #[.int .i64 sh,.agg #[.int .i64 1,.int .i64 key]] W _ from bW sh 1 key W)
 rw[show Proofs.YtbcnnhlpilmmbaaGreat.may sh ⟨1,key⟩=true from hmay] at oH
 have uz:=fun W=>eF ⟨sh,1,key⟩ ⟨pred,pw,curr,cw⟩ ⟨hpw,hcw⟩ W
 simp only[hf] at uz
 have HC:=fun W=>kV ⟨sh,1,key⟩ ⟨pred,pw,curr,cw⟩ spare ⟨hpw,hcw⟩ W
 obtain⟨P,hP⟩:∃ P,Pos.link ⟨pred,pw,curr,cw⟩ spare=P:=⟨_,rfl⟩
 have HST:Hid (aw ⟨sh,1,key⟩ ⟨pred,pw,curr,cw⟩ spare=P):=Lib.hid (by rw[←hP];unfold aw;rw[if_pos (.inr ⟨rfl,hf⟩)])
 rw[hP] at HC
 clear hP hmay hf
 obtain⟨g0,⟨g1,g2,g3⟩,g4,g5,g6,g7,g8⟩:=P
 simp only[dw.val] at HC
 go_enter Tryz.func154,Tryz.ntmps154
 refine bx0 w 85 #[.int .i64 sh,.int .i64 1,.int .i64 key] ?_;rintro C w0 e0 ag fr sb
 have z1:=sb
 revert fr sb;refine bx1 154 #[.int .i64 pred,.int .u64 pw,.int .i64 curr,.int .u64 cw] ?_;rintro w1 wB lpo fr po sb
 have z2:=And.intro sb po
 revert fr po sb;refine bx1 167 #[.bool false,.int .i64 0,.bool false,.int .i64 0,.int .i64 0,.int .u64 0,.int .i64 0,.bool false,.int .i64 0] ?_;rintro w2 nF zG fr pl po sb
 have z3:=And.intro sb (And.intro po pl)
 revert fr pl po sb;refine bx1 250 #[.int .i64 sh,.int .i64 1,.int .i64 key,.int .i64 pred,.int .u64 pw,.int .i64 curr,.int .u64 cw] ?_;rintro w3 wC Fw fr pc pl po sb
 go_wp2_with fail
 clear e0 wB z1 nF z2 wC z3
 revert fr pc pl po sb;refine bk (oH _) ?_;rintro e w4 rfl fr pc pl po sb
 go_wp2_with fail
 revert fr pc pl po sb;refine bk (uz _) ?_;rintro e w5 rfl fr pc pl po sb
 go_wp2_with fail
 revert fr pc pl po sb;refine bk (HC _) ?_;rintro e w6 rfl fr pc pl po sb
 have z4:=And.intro sb (And.intro po (And.intro pl pc))
 have hR:=ko
 revert fr pc po sb;refine gO pl [(0,.bool g0),(1,.int .i64 g1),(2,.bool g2),(3,.int .i64 g3),(4,.int .i64 g4),(5,.int .u64 g5),(6,.int .i64 g6),(7,.bool g7),(8,.int .i64 g8)] ?_;clear pl;rintro w7 e1 fr pl pc po sb
 simp only[stx,sx] at e1 pl
 go_wp2_with fail
 clear z4 e1 hR
 refine bodyPost_ret (v:= .agg #[.bool g0,.int .i64 g1,.bool g2,.int .i64 g3,.int .i64 g4,.int .u64 g5,.int .i64 g6,.bool g7,.int .i64 g8]) (by simp[results,Tryz.results154,go_sem,pl.1]) rfl ⟨by rw[HST.out];rfl,fr.b4⟩
theorem sN (t:bq) (p:Pos) (spare:Int) (hp:p.Ok) (hmay:t.may=true) (w:World) (hk:t.kind=1) (hf:p.found t=true):Calls Tryz.prog 154 #[t.val,p.val,.int .i64 spare] w fun e w'=>e= .returned (aw t p spare).val∧Below w.heap.size w w':=by
 obtain⟨sh,kind,key⟩:=t
 obtain⟨pred,pw,curr,cw⟩:=p
 obtain⟨hpw,hcw⟩:=hp
 simp only at hpw hcw
 simp only at hk hf
 subst hk
 have oH:=fun W=>(show Calls Tryz.prog 57 #[.int .i64 sh,.agg #[.int .i64 1,.int .i64 key]] W _ from bW sh 1 key W)
 rw[show Proofs.YtbcnnhlpilmmbaaGreat.may sh ⟨1,key⟩=true from hmay] at oH
 have uz:=fun W=>eF ⟨sh,1,key⟩ ⟨pred,pw,curr,cw⟩ ⟨hpw,hcw⟩ W
 simp only[hf] at uz
 have HC:=fun W=>jN false W
 obtain⟨P,hP⟩:∃ P,told false=P:=⟨_,rfl⟩
 have HST:Hid (aw ⟨sh,1,key⟩ ⟨pred,pw,curr,cw⟩ spare=P):=Lib.hid (by rw[←hP];unfold aw;rw[if_neg (by simp[hf]),if_neg (by simp),if_neg (by simp)];simp)
 rw[hP] at HC
 clear hP hmay hf
 obtain⟨g0,⟨g1,g2,g3⟩,g4,g5,g6,g7,g8⟩:=P
 simp only[dw.val] at HC
 go_enter Tryz.func154,Tryz.ntmps154
 refine bx0 w 85 #[.int .i64 sh,.int .i64 1,.int .i64 key] ?_;rintro C w0 e0 ag fr sb
 have z1:=sb
 revert fr sb;refine bx1 154 #[.int .i64 pred,.int .u64 pw,.int .i64 curr,.int .u64 cw] ?_;rintro w1 wB lpo fr po sb
 have z2:=And.intro sb po
 revert fr po sb;refine bx1 167 #[.bool false,.int .i64 0,.bool false,.int .i64 0,.int .i64 0,.int .u64 0,.int .i64 0,.bool false,.int .i64 0] ?_;rintro w2 nF zG fr pl po sb
 have z3:=And.intro sb (And.intro po pl)
 revert fr pl po sb;refine bx1 250 #[.int .i64 sh,.int .i64 1,.int .i64 key,.int .i64 pred,.int .u64 pw,.int .i64 curr,.int .u64 cw] ?_;rintro w3 wC Fw fr pc pl po sb
 go_wp2_with fail
 clear e0 wB z1 nF z2 wC z3
 revert fr pc pl po sb;refine bk (oH _) ?_;rintro e w4 rfl fr pc pl po sb
 go_wp2_with fail
 revert fr pc pl po sb;refine bk (uz _) ?_;rintro e w5 rfl fr pc pl po sb
 go_wp2_with fail
 revert fr pc pl po sb;refine bk (HC _) ?_;rintro e w6 rfl fr pc pl po sb
 have z4:=And.intro sb (And.intro po (And.intro pl pc))
 have hR:=ko
 revert fr pc po sb;refine gO pl [(0,.bool g0),(1,.int .i64 g1),(2,.bool g2),(3,.int .i64 g3),(4,.int .i64 g4),(5,.int .u64 g5),(6,.int .i64 g6),(7,.bool g7),(8,.int .i64 g8)] ?_;clear pl;rintro w7 e1 fr pl pc po sb
 simp only[stx,sx] at e1 pl
 go_wp2_with fail
 clear z4 e1 hR
 refine bodyPost_ret (v:= .agg #[.bool g0,.int .i64 g1,.bool g2,.int .i64 g3,.int .i64 g4,.int .u64 g5,.int .i64 g6,.bool g7,.int .i64 g8]) (by simp[results,Tryz.results154,go_sem,pl.1]) rfl ⟨by rw[HST.out];rfl,fr.b4⟩
theorem sP (t:bq) (p:Pos) (spare:Int) (hp:p.Ok) (hmay:t.may=true) (w:World) (hk:t.kind=2) (hf:p.found t=true):Calls Tryz.prog 154 #[t.val,p.val,.int .i64 spare] w fun e w'=>e= .returned (aw t p spare).val∧Below w.heap.size w w':=by
 obtain⟨sh,kind,key⟩:=t
 obtain⟨pred,pw,curr,cw⟩:=p
 obtain⟨hpw,hcw⟩:=hp
 simp only at hpw hcw
 simp only at hk hf
 subst hk
 have oH:=fun W=>(show Calls Tryz.prog 57 #[.int .i64 sh,.agg #[.int .i64 2,.int .i64 key]] W _ from bW sh 2 key W)
 rw[show Proofs.YtbcnnhlpilmmbaaGreat.may sh ⟨2,key⟩=true from hmay] at oH
 have uz:=fun W=>eF ⟨sh,2,key⟩ ⟨pred,pw,curr,cw⟩ ⟨hpw,hcw⟩ W
 simp only[hf] at uz
 have HC:=fun W=>kW ⟨sh,2,key⟩ ⟨pred,pw,curr,cw⟩ ⟨hpw,hcw⟩ W
 obtain⟨P,hP⟩:∃ P,Pos.mark ⟨pred,pw,curr,cw⟩=P:=⟨_,rfl⟩
 have HST:Hid (aw ⟨sh,2,key⟩ ⟨pred,pw,curr,cw⟩ spare=P):=Lib.hid (by rw[←hP];unfold aw;rw[if_neg (by simp),if_pos ⟨rfl,hf⟩])
 rw[hP] at HC
 clear hP hmay hf
 obtain⟨g0,⟨g1,g2,g3⟩,g4,g5,g6,g7,g8⟩:=P
 simp only[dw.val] at HC
 go_enter Tryz.func154,Tryz.ntmps154
 refine bx0 w 85 #[.int .i64 sh,.int .i64 2,.int .i64 key] ?_;rintro C w0 e0 ag fr sb
 have z1:=sb
 revert fr sb;refine bx1 154 #[.int .i64 pred,.int .u64 pw,.int .i64 curr,.int .u64 cw] ?_;rintro w1 wB lpo fr po sb
 have z2:=And.intro sb po
 revert fr po sb;refine bx1 167 #[.bool false,.int .i64 0,.bool false,.int .i64 0,.int .i64 0,.int .u64 0,.int .i64 0,.bool false,.int .i64 0] ?_;rintro w2 nF zG fr pl po sb
 have z3:=And.intro sb (And.intro po pl)
 revert fr pl po sb;refine bx1 250 #[.int .i64 sh,.int .i64 2,.int .i64 key,.int .i64 pred,.int .u64 pw,.int .i64 curr,.int .u64 cw] ?_;rintro w3 wC Fw fr pc pl po sb
 go_wp2_with fail
 clear e0 wB z1 nF z2 wC z3
 revert fr pc pl po sb;refine bk (oH _) ?_;rintro e w4 rfl fr pc pl po sb
 go_wp2_with fail
 revert fr pc pl po sb;refine bk (uz _) ?_;rintro e w5 rfl fr pc pl po sb
 go_wp2_with fail
 revert fr pc pl po sb;refine bk (HC _) ?_;rintro e w6 rfl fr pc pl po sb
 have z4:=And.intro sb (And.intro po (And.intro pl pc))
 have hR:=ko
 revert fr pc po sb;refine gO pl [(0,.bool g0),(1,.int .i64 g1),(2,.bool g2),(3,.int .i64 g3),(4,.int .i64 g4),(5,.int .u64 g5),(6,.int .i64 g6),(7,.bool g7),(8,.int .i64 g8)] ?_;clear pl;rintro w7 e1 fr pl pc po sb
 simp only[stx,sx] at e1 pl
 go_wp2_with fail
 clear z4 e1 hR
 refine bodyPost_ret (v:= .agg #[.bool g0,.int .i64 g1,.bool g2,.int .i64 g3,.int .i64 g4,.int .u64 g5,.int .i64 g6,.bool g7,.int .i64 g8]) (by simp[results,Tryz.results154,go_sem,pl.1]) rfl ⟨by rw[HST.out];rfl,fr.b4⟩
theorem sQ (t:bq) (p:Pos) (spare:Int) (hp:p.Ok) (hmay:t.may=true) (w:World) (hk:t.kind=2) (hf:p.found t=false):Calls Tryz.prog 154 #[t.val,p.val,.int .i64 spare] w fun e w'=>e= .returned (aw t p spare).val∧Below w.heap.size w w':=by
 obtain⟨sh,kind,key⟩:=t
 obtain⟨pred,pw,curr,cw⟩:=p
 obtain⟨hpw,hcw⟩:=hp
 simp only at hpw hcw
 simp only at hk hf
 subst hk
 have oH:=fun W=>(show Calls Tryz.prog 57 #[.int .i64 sh,.agg #[.int .i64 2,.int .i64 key]] W _ from bW sh 2 key W)
 rw[show Proofs.YtbcnnhlpilmmbaaGreat.may sh ⟨2,key⟩=true from hmay] at oH
 have uz:=fun W=>eF ⟨sh,2,key⟩ ⟨pred,pw,curr,cw⟩ ⟨hpw,hcw⟩ W
 simp only[hf] at uz
 have HC:=fun W=>jN false W
 obtain⟨P,hP⟩:∃ P,told false=P:=⟨_,rfl⟩
 have HST:Hid (aw ⟨sh,2,key⟩ ⟨pred,pw,curr,cw⟩ spare=P):=Lib.hid (by rw[←hP];unfold aw;rw[if_neg (by simp),if_neg (by simp[hf]),if_neg (by simp)];simp)
 rw[hP] at HC
 clear hP hmay hf
 obtain⟨g0,⟨g1,g2,g3⟩,g4,g5,g6,g7,g8⟩:=P
 simp only[dw.val] at HC
 go_enter Tryz.func154,Tryz.ntmps154
 refine bx0 w 85 #[.int .i64 sh,.int .i64 2,.int .i64 key] ?_;rintro C w0 e0 ag fr sb
 have z1:=sb
 revert fr sb;refine bx1 154 #[.int .i64 pred,.int .u64 pw,.int .i64 curr,.int .u64 cw] ?_;rintro w1 wB lpo fr po sb
 have z2:=And.intro sb po
 revert fr po sb;refine bx1 167 #[.bool false,.int .i64 0,.bool false,.int .i64 0,.int .i64 0,.int .u64 0,.int .i64 0,.bool false,.int .i64 0] ?_;rintro w2 nF zG fr pl po sb
 have z3:=And.intro sb (And.intro po pl)
 revert fr pl po sb;refine bx1 250 #[.int .i64 sh,.int .i64 2,.int .i64 key,.int .i64 pred,.int .u64 pw,.int .i64 curr,.int .u64 cw] ?_;rintro w3 wC Fw fr pc pl po sb
 go_wp2_with fail
 clear e0 wB z1 nF z2 wC z3
 revert fr pc pl po sb;refine bk (oH _) ?_;rintro e w4 rfl fr pc pl po sb
 go_wp2_with fail
 revert fr pc pl po sb;refine bk (uz _) ?_;rintro e w5 rfl fr pc pl po sb
 go_wp2_with fail
 revert fr pc pl po sb;refine bk (HC _) ?_;rintro e w6 rfl fr pc pl po sb
 have z4:=And.intro sb (And.intro po (And.intro pl pc))
 have hR:=ko
 revert fr pc po sb;refine gO pl [(0,.bool g0),(1,.int .i64 g1),(2,.bool g2),(3,.int .i64 g3),(4,.int .i64 g4),(5,.int .u64 g5),(6,.int .i64 g6),(7,.bool g7),(8,.int .i64 g8)] ?_;clear pl;rintro w7 e1 fr pl pc po sb
 simp only[stx,sx] at e1 pl
 go_wp2_with fail
 clear z4 e1 hR
 refine bodyPost_ret (v:= .agg #[.bool g0,.int .i64 g1,.bool g2,.int .i64 g3,.int .i64 g4,.int .u64 g5,.int .i64 g6,.bool g7,.int .i64 g8]) (by simp[results,Tryz.results154,go_sem,pl.1]) rfl ⟨by rw[HST.out];rfl,fr.b4⟩
theorem sS (t:bq) (p:Pos) (spare:Int) (hp:p.Ok) (hmay:t.may=true) (w:World) (hk:t.kind=5):Calls Tryz.prog 154 #[t.val,p.val,.int .i64 spare] w fun e w'=>e= .returned (aw t p spare).val∧Below w.heap.size w w':=by
 obtain⟨sh,kind,key⟩:=t
 obtain⟨pred,pw,curr,cw⟩:=p
 obtain⟨hpw,hcw⟩:=hp
 simp only at hpw hcw
 simp only at hk
 subst hk
 have oH:=fun W=>(show Calls Tryz.prog 57 #[.int .i64 sh,.agg #[.int .i64 5,.int .i64 key]] W _ from bW sh 5 key W)
 rw[show Proofs.YtbcnnhlpilmmbaaGreat.may sh ⟨5,key⟩=true from hmay] at oH
 have HC:=fun W=>wz ⟨sh,5,key⟩ ⟨pred,pw,curr,cw⟩ ⟨hpw,hcw⟩ W
 obtain⟨P,hP⟩:∃ P,Pos.take ⟨pred,pw,curr,cw⟩ ⟨sh,5,key⟩=P:=⟨_,rfl⟩
 have HST:Hid (aw ⟨sh,5,key⟩ ⟨pred,pw,curr,cw⟩ spare=P):=Lib.hid (by rw[←hP];unfold aw;rw[if_neg (by simp),if_neg (by simp),if_pos rfl])
 rw[hP] at HC
 clear hP hmay
 obtain⟨g0,⟨g1,g2,g3⟩,g4,g5,g6,g7,g8⟩:=P
 simp only[dw.val] at HC
 go_enter Tryz.func154,Tryz.ntmps154
 refine bx0 w 85 #[.int .i64 sh,.int .i64 5,.int .i64 key] ?_;rintro C w0 e0 ag fr sb
 have z1:=sb
 revert fr sb;refine bx1 154 #[.int .i64 pred,.int .u64 pw,.int .i64 curr,.int .u64 cw] ?_;rintro w1 wB lpo fr po sb
 have z2:=And.intro sb po
 revert fr po sb;refine bx1 167 #[.bool false,.int .i64 0,.bool false,.int .i64 0,.int .i64 0,.int .u64 0,.int .i64 0,.bool false,.int .i64 0] ?_;rintro w2 nF zG fr pl po sb
 have z3:=And.intro sb (And.intro po pl)
 revert fr pl po sb;refine bx1 250 #[.int .i64 sh,.int .i64 5,.int .i64 key,.int .i64 pred,.int .u64 pw,.int .i64 curr,.int .u64 cw] ?_;rintro w3 wC Fw fr pc pl po sb
 go_wp2_with fail
 clear e0 wB z1 nF z2 wC z3
 revert fr pc pl po sb;refine bk (oH _) ?_;rintro e w4 rfl fr pc pl po sb
 go_wp2_with fail
 revert fr pc pl po sb;refine bk (HC _) ?_;rintro e w5 rfl fr pc pl po sb
 have z4:=And.intro sb (And.intro po (And.intro pl pc))
 have hR:=ko
 revert fr pc po sb;refine gO pl [(0,.bool g0),(1,.int .i64 g1),(2,.bool g2),(3,.int .i64 g3),(4,.int .i64 g4),(5,.int .u64 g5),(6,.int .i64 g6),(7,.bool g7),(8,.int .i64 g8)] ?_;clear pl;rintro w6 e1 fr pl pc po sb
 simp only[stx,sx] at e1 pl
 go_wp2_with fail
 clear z4 e1 hR
 refine bodyPost_ret (v:= .agg #[.bool g0,.int .i64 g1,.bool g2,.int .i64 g3,.int .i64 g4,.int .u64 g5,.int .i64 g6,.bool g7,.int .i64 g8]) (by simp[results,Tryz.results154,go_sem,pl.1]) rfl ⟨by rw[HST.out];rfl,fr.b4⟩
theorem sT (t:bq) (p:Pos) (spare:Int) (hp:p.Ok) (hmay:t.may=true) (w:World) (hk:t.kind=3) (hf:p.found t=true):Calls Tryz.prog 154 #[t.val,p.val,.int .i64 spare] w fun e w'=>e= .returned (aw t p spare).val∧Below w.heap.size w w':=by
 obtain⟨sh,kind,key⟩:=t
 obtain⟨pred,pw,curr,cw⟩:=p
 obtain⟨hpw,hcw⟩:=hp
 simp only at hpw hcw
 simp only at hk hf
 subst hk
 have oH:=fun W=>(show Calls Tryz.prog 57 #[.int .i64 sh,.agg #[.int .i64 3,.int .i64 key]] W _ from bW sh 3 key W)
 rw[show Proofs.YtbcnnhlpilmmbaaGreat.may sh ⟨3,key⟩=true from hmay] at oH
 have uz:=fun W=>eF ⟨sh,3,key⟩ ⟨pred,pw,curr,cw⟩ ⟨hpw,hcw⟩ W
 simp only[hf] at uz
 have HC:=fun W=>jN true W
 obtain⟨P,hP⟩:∃ P,told true=P:=⟨_,rfl⟩
 have HST:Hid (aw ⟨sh,3,key⟩ ⟨pred,pw,curr,cw⟩ spare=P):=Lib.hid (by rw[←hP];unfold aw;rw[if_neg (by simp),if_neg (by simp),if_neg (by simp),hf];rfl)
 rw[hP] at HC
 clear hP hmay hf
 obtain⟨g0,⟨g1,g2,g3⟩,g4,g5,g6,g7,g8⟩:=P
 simp only[dw.val] at HC
 go_enter Tryz.func154,Tryz.ntmps154
 refine bx0 w 85 #[.int .i64 sh,.int .i64 3,.int .i64 key] ?_;rintro C w0 e0 ag fr sb
 have z1:=sb
 revert fr sb;refine bx1 154 #[.int .i64 pred,.int .u64 pw,.int .i64 curr,.int .u64 cw] ?_;rintro w1 wB lpo fr po sb
 have z2:=And.intro sb po
 revert fr po sb;refine bx1 167 #[.bool false,.int .i64 0,.bool false,.int .i64 0,.int .i64 0,.int .u64 0,.int .i64 0,.bool false,.int .i64 0] ?_;rintro w2 nF zG fr pl po sb
 have z3:=And.intro sb (And.intro po pl)
 revert fr pl po sb;refine bx1 250 #[.int .i64 sh,.int .i64 3,.int .i64 key,.int .i64 pred,.int .u64 pw,.int .i64 curr,.int .u64 cw] ?_;rintro w3 wC Fw fr pc pl po sb
 go_wp2_with fail
 clear e0 wB z1 nF z2 wC z3
 revert fr pc pl po sb;refine bk (oH _) ?_;rintro e w4 rfl fr pc pl po sb
 go_wp2_with fail
 revert fr pc pl po sb;refine bk (uz _) ?_;rintro e w5 rfl fr pc pl po sb
 go_wp2_with fail
 revert fr pc pl po sb;refine bk (HC _) ?_;rintro e w6 rfl fr pc pl po sb
 have z4:=And.intro sb (And.intro po (And.intro pl pc))
 have hR:=ko
 revert fr pc po sb;refine gO pl [(0,.bool g0),(1,.int .i64 g1),(2,.bool g2),(3,.int .i64 g3),(4,.int .i64 g4),(5,.int .u64 g5),(6,.int .i64 g6),(7,.bool g7),(8,.int .i64 g8)] ?_;clear pl;rintro w7 e1 fr pl pc po sb
 simp only[stx,sx] at e1 pl
 go_wp2_with fail
 clear z4 e1 hR
 refine bodyPost_ret (v:= .agg #[.bool g0,.int .i64 g1,.bool g2,.int .i64 g3,.int .i64 g4,.int .u64 g5,.int .i64 g6,.bool g7,.int .i64 g8]) (by simp[results,Tryz.results154,go_sem,pl.1]) rfl ⟨by rw[HST.out];rfl,fr.b4⟩
theorem sU (t:bq) (p:Pos) (spare:Int) (hp:p.Ok) (hmay:t.may=true) (w:World) (hk:t.kind=3) (hf:p.found t=false):Calls Tryz.prog 154 #[t.val,p.val,.int .i64 spare] w fun e w'=>e= .returned (aw t p spare).val∧Below w.heap.size w w':=by
 obtain⟨sh,kind,key⟩:=t
 obtain⟨pred,pw,curr,cw⟩:=p
 obtain⟨hpw,hcw⟩:=hp
 simp only at hpw hcw
 simp only at hk hf
 subst hk
 have oH:=fun W=>(show Calls Tryz.prog 57 #[.int .i64 sh,.agg #[.int .i64 3,.int .i64 key]] W _ from bW sh 3 key W)
 rw[show Proofs.YtbcnnhlpilmmbaaGreat.may sh ⟨3,key⟩=true from hmay] at oH
 have uz:=fun W=>eF ⟨sh,3,key⟩ ⟨pred,pw,curr,cw⟩ ⟨hpw,hcw⟩ W
 simp only[hf] at uz
 have HC:=fun W=>jN false W
 obtain⟨P,hP⟩:∃ P,told false=P:=⟨_,rfl⟩
 have HST:Hid (aw ⟨sh,3,key⟩ ⟨pred,pw,curr,cw⟩ spare=P):=Lib.hid (by rw[←hP];unfold aw;rw[if_neg (by simp),if_neg (by simp),if_neg (by simp),hf];rfl)
 rw[hP] at HC
 clear hP hmay hf
 obtain⟨g0,⟨g1,g2,g3⟩,g4,g5,g6,g7,g8⟩:=P
 simp only[dw.val] at HC
 go_enter Tryz.func154,Tryz.ntmps154
 refine bx0 w 85 #[.int .i64 sh,.int .i64 3,.int .i64 key] ?_;rintro C w0 e0 ag fr sb
 have z1:=sb
 revert fr sb;refine bx1 154 #[.int .i64 pred,.int .u64 pw,.int .i64 curr,.int .u64 cw] ?_;rintro w1 wB lpo fr po sb
 have z2:=And.intro sb po
 revert fr po sb;refine bx1 167 #[.bool false,.int .i64 0,.bool false,.int .i64 0,.int .i64 0,.int .u64 0,.int .i64 0,.bool false,.int .i64 0] ?_;rintro w2 nF zG fr pl po sb
 have z3:=And.intro sb (And.intro po pl)
 revert fr pl po sb;refine bx1 250 #[.int .i64 sh,.int .i64 3,.int .i64 key,.int .i64 pred,.int .u64 pw,.int .i64 curr,.int .u64 cw] ?_;rintro w3 wC Fw fr pc pl po sb
 go_wp2_with fail
 clear e0 wB z1 nF z2 wC z3
 revert fr pc pl po sb;refine bk (oH _) ?_;rintro e w4 rfl fr pc pl po sb
 go_wp2_with fail
 revert fr pc pl po sb;refine bk (uz _) ?_;rintro e w5 rfl fr pc pl po sb
 go_wp2_with fail
 revert fr pc pl po sb;refine bk (HC _) ?_;rintro e w6 rfl fr pc pl po sb
 have z4:=And.intro sb (And.intro po (And.intro pl pc))
 have hR:=ko
 revert fr pc po sb;refine gO pl [(0,.bool g0),(1,.int .i64 g1),(2,.bool g2),(3,.int .i64 g3),(4,.int .i64 g4),(5,.int .u64 g5),(6,.int .i64 g6),(7,.bool g7),(8,.int .i64 g8)] ?_;clear pl;rintro w7 e1 fr pl pc po sb
 simp only[stx,sx] at e1 pl
 go_wp2_with fail
 clear z4 e1 hR
 refine bodyPost_ret (v:= .agg #[.bool g0,.int .i64 g1,.bool g2,.int .i64 g3,.int .i64 g4,.int .u64 g5,.int .i64 g6,.bool g7,.int .i64 g8]) (by simp[results,Tryz.results154,go_sem,pl.1]) rfl ⟨by rw[HST.out];rfl,fr.b4⟩
theorem fV (t:bq) (p:Pos) (spare:Int) (hp:p.Ok) (hmay:t.may=true) (w:World):Calls Tryz.prog 154 #[t.val,p.val,.int .i64 spare] w fun e w'=>e= .returned (aw t p spare).val∧Below w.heap.size w w':=by
 have hr:=(bq.rng hmay).kind
 rcases(by omega:t.kind=1∨t.kind=2∨t.kind=3∨t.kind=4∨t.kind=5) with hk | hk | hk | hk | hk
 ·cases hf:p.found t with
  | true=>exact sN t p spare hp hmay w hk hf
  | false=>exact sM t p spare hp hmay w hk hf
 ·cases hf:p.found t with
  | true=>exact sP t p spare hp hmay w hk hf
  | false=>exact sQ t p spare hp hmay w hk hf
 ·cases hf:p.found t with
  | true=>exact sT t p spare hp hmay w hk hf
  | false=>exact sU t p spare hp hmay w hk hf
 ·exact uy t p spare hp hmay w hk
 ·exact sS t p spare hp hmay w hk
theorem lM (p:dw) (ho:0≤p.old∧p.old<18446744073709551616) (hq:p.now=true) (w:World):Calls Tryz.prog 155 #[p.val] w fun e w'=>e= .returned (.bool p.claimed)∧Below w.heap.size w w':=by
 obtain⟨g0,⟨g1,g2,g3⟩,g4,g5,g6,g7,g8⟩:=p
 simp only at ho hq
 subst hq
 simp only[dw.val]
 have HST:Hid (dw.claimed ⟨true,⟨g1,g2,g3⟩,g4,g5,g6,g7,g8⟩=false):=Lib.hid (by unfold dw.claimed;rfl)
 go_enter Tryz.func155,Tryz.ntmps155
 refine bx0 w 167 #[.bool true,.int .i64 g1,.bool g2,.int .i64 g3,.int .i64 g4,.int .u64 g5,.int .i64 g6,.bool g7,.int .i64 g8] ?_;rintro C w0 e0 ag fr sb
 go_wp2_with fail
 clear e0
 go_ret
 exact⟨by rw[HST.out];rfl,fr.b4⟩
theorem oI (p:dw) (ho:0≤p.old∧p.old<18446744073709551616) (hq:p.now=true) (w:World):Calls Tryz.prog 119 #[p.val] w fun e w'=>e= .returned (.int .u64 p.word)∧Below w.heap.size w w':=by
 obtain⟨g0,⟨g1,g2,g3⟩,g4,g5,g6,g7,g8⟩:=p
 simp only at ho hq
 subst hq
 simp only[dw.val]
 go_enter Tryz.func119,Tryz.ntmps119
 refine bx0 w 167 #[.bool true,.int .i64 g1,.bool g2,.int .i64 g3,.int .i64 g4,.int .u64 g5,.int .i64 g6,.bool g7,.int .i64 g8] ?_;rintro C w0 e0 ag fr sb
 go_wp2_with fail
 clear e0
 go_ret
 exact⟨rfl,fr.b4⟩
theorem oJ (p:dw) (ho:0≤p.old∧p.old<18446744073709551616) (hq:p.now=true) (aM:Int) (w:World):Calls Tryz.prog 103 #[p.val,.int .i64 aM] w fun e w'=>(∃ ec:Int,e= .returned (.tuple #[.int .u64 (p.desc aM),.int .i64 ec]))∧Below w.heap.size w w':=by
 obtain⟨g0,⟨g1,g2,g3⟩,g4,g5,g6,g7,g8⟩:=p
 simp only at ho hq
 subst hq
 simp only[dw.val]
 go_enter Tryz.func103,Tryz.ntmps103
 refine bx0 w 167 #[.bool true,.int .i64 g1,.bool g2,.int .i64 g3,.int .i64 g4,.int .u64 g5,.int .i64 g6,.bool g7,.int .i64 g8] ?_;rintro C w0 e0 ag fr sb
 go_wp2_with fail
 clear e0
 go_ret2
 exact⟨⟨5,rfl⟩,fr.b4⟩
theorem kX (p:dw) (ho:0≤p.old∧p.old<18446744073709551616) (hq:p.now=false) (w:World):Calls Tryz.prog 155 #[p.val] w fun e w'=>e= .returned (.bool p.claimed)∧Below w.heap.size w w':=by
 obtain⟨g0,⟨g1,g2,g3⟩,g4,g5,g6,g7,g8⟩:=p
 simp only at ho hq
 subst hq
 simp only[dw.val]
 have HG:=fun W=>aT g5 W ho
 have lG:=(bG g5).ver
 obtain⟨W0,hW0⟩:∃ W0,aE g5=W0:=⟨_,rfl⟩
 rw[hW0] at HG lG
 have hfl:∀ W,(Instr.field 198 W0.val 3).run Tryz.prog W= .ok (.int .i64 W0.claim) W:=fun W=>xF _ _ _ _ _ W
 have HST:Hid (dw.claimed ⟨false,⟨g1,g2,g3⟩,g4,g5,g6,g7,g8⟩=(W0.claim !=0)):=Lib.hid (by unfold dw.claimed;simp only[hW0];simp[bne];rfl)
 clear hW0
 go_enter Tryz.func155,Tryz.ntmps155
 refine bx0 w 167 #[.bool false,.int .i64 g1,.bool g2,.int .i64 g3,.int .i64 g4,.int .u64 g5,.int .i64 g6,.bool g7,.int .i64 g8] ?_;rintro C w0 e0 ag fr sb
 go_wp2_with fail
 clear e0
 revert fr sb;refine bk (HG _) ?_;rintro e w1 rfl fr sb
 go_wp2_with fail
 go_ret
 exact⟨by rw[HST.out];rfl,fr.b4⟩
theorem nG (p:dw) (ho:0≤p.old∧p.old<18446744073709551616) (hq:p.now=false) (w:World):Calls Tryz.prog 119 #[p.val] w fun e w'=>e= .returned (.int .u64 p.word)∧Below w.heap.size w w':=by
 obtain⟨g0,⟨g1,g2,g3⟩,g4,g5,g6,g7,g8⟩:=p
 simp only at ho hq
 subst hq
 simp only[dw.val]
 have HG:=fun W=>aT g5 W ho
 have lG:=(bG g5).ver
 obtain⟨W0,hW0⟩:∃ W0,aE g5=W0:=⟨_,rfl⟩
 rw[hW0] at HG lG
 have zF:=fun W=>lu W0 0 g6 g7 W (by omega)
 have MR:=fun W=>mj (W0.claimed 0 g6 g7) W lG
 have HP:=hU (W0.claimed 0 g6 g7).free _ rfl
 have HST:Hid (dw.word ⟨false,⟨g1,g2,g3⟩,g4,g5,g6,g7,g8⟩=eU (W0.claimed 0 g6 g7).free):=Lib.hid (by unfold dw.word;simp only[hW0];rfl)
 generalize W0.claimed 0 g6 g7=W1 at *
 generalize W1.free=W2 at *
 generalize eU W2=x at *
 clear hW0
 go_enter Tryz.func119,Tryz.ntmps119
 refine bx0 w 167 #[.bool false,.int .i64 g1,.bool g2,.int .i64 g3,.int .i64 g4,.int .u64 g5,.int .i64 g6,.bool g7,.int .i64 g8] ?_;rintro C w0 e0 ag fr sb
 go_wp2_with fail
 clear e0
 revert fr sb;refine bD ?_;intro fr sb
 obtain⟨q1,qi⟩:=aV sb
 refine ar sb 14 [([0,1,3,4,5,6],2),([],7),([],8),([],9)] [10,11,12,13] [14] (by kernel_rfl) (by kernel_rfl) ?_
 refine ai ?_;simp only[ox];repeat(go_big_quiet_step (fail))
 refine di rfl (fun K' hK'=> ?_);go_simp
 revert fr sb;with_reducible refine bk (HG _) ?_;rintro e w1 rfl fr sb
 refine hK' _ _ (bZ sb) ?_;clear hK' K'
 refine ai ?_;simp only[ox];repeat(go_big_quiet_step (fail))
 refine di rfl (fun K' hK'=> ?_);go_simp
 revert fr sb;with_reducible refine bk (zF _) ?_;rintro e w2 rfl fr sb
 refine hK' _ _ (bZ sb) ?_;clear hK' K'
 refine ai ?_;simp only[ox];repeat(go_big_quiet_step (fail))
 refine di rfl (fun K' hK'=> ?_);go_simp
 revert fr sb;with_reducible refine bk (MR _) ?_;rintro e w3 rfl fr sb
 refine hK' _ _ (bZ sb) ?_;clear hK' K'
 refine ai ?_;simp only[ox];repeat(go_big_quiet_step (fail))
 refine di rfl (fun K' hK'=> ?_);go_simp
 revert fr sb;with_reducible refine bk (HP _) ?_;rintro e w4 ⟨ec,rfl⟩ fr sb
 refine hK' _ _ (bZ sb) ?_;clear hK' K'
 refine af ?_;try simp only[ox]
 repeat(go_big_quiet_step (fail))
 refine wpQuiet_nil ?_
 refine ae _ _ _ (by kernel_rfl) ?_;try simp only[ox]
 clear qi q1
 go_wp2_with fail
 refine NoPanic.normal ?_
 go_wp2_with fail
 go_ret
 exact⟨by rw[HST.out];rfl,fr.b4⟩
theorem nH (p:dw) (ho:0≤p.old∧p.old<18446744073709551616) (hq:p.now=false) (aM:Int) (w:World):Calls Tryz.prog 103 #[p.val,.int .i64 aM] w fun e w'=>(∃ ec:Int,e= .returned (.tuple #[.int .u64 (p.desc aM),.int .i64 ec]))∧Below w.heap.size w w':=by
 obtain⟨g0,⟨g1,g2,g3⟩,g4,g5,g6,g7,g8⟩:=p
 simp only at ho hq
 subst hq
 simp only[dw.val]
 have HG:=fun W=>aT g5 W ho
 have lG:=(bG g5).ver
 obtain⟨W0,hW0⟩:∃ W0,aE g5=W0:=⟨_,rfl⟩
 rw[hW0] at HG lG
 have hfl:∀ W,(Instr.field 198 W0.val 4).run Tryz.prog W= .ok (.int .i64 W0.ver) W:=fun W=>As _ _ _ _ _ W
 have HP:=fun W=>(show Calls Tryz.prog 100 #[.agg #[.int .i64 aM,.int .i64 g4,.int .i64 W0.ver,.int .i64 g6,.bool g7,.int .i64 2,.int .i64 g3]] W _ from j8 ⟨aM,g4,W0.ver,g6,g7,2,g3⟩ _ rfl W)
 have HST:Hid (dw.desc ⟨false,⟨g1,g2,g3⟩,g4,g5,g6,g7,g8⟩ aM=cL ⟨aM,g4,W0.ver,g6,g7,2,g3⟩):=Lib.hid (by unfold dw.desc;simp only[hW0];rfl)
 generalize cL ⟨aM,g4,W0.ver,g6,g7,2,g3⟩=x at *
 clear hW0
 go_enter Tryz.func103,Tryz.ntmps103
 refine bx0 w 167 #[.bool false,.int .i64 g1,.bool g2,.int .i64 g3,.int .i64 g4,.int .u64 g5,.int .i64 g6,.bool g7,.int .i64 g8] ?_;rintro C w0 e0 ag fr sb
 go_wp2_with fail
 clear e0
 revert fr sb;refine bD ?_;intro fr sb
 obtain⟨q1,qi⟩:=aV sb
 refine ar sb 19 [([0,1,2,3,4,7,8,9,10,11,12,13],5),([6,14],15)] [16,17,18] [19] (by kernel_rfl) (by kernel_rfl) ?_
 refine ai ?_;simp only[ox];repeat(go_big_quiet_step (fail))
 refine di rfl (fun K' hK'=> ?_);go_simp
 revert fr sb;with_reducible refine bk (HG _) ?_;rintro e w1 rfl fr sb
 refine hK' _ _ (bZ sb) ?_;clear hK' K'
 refine ai ?_;simp only[ox];repeat(go_big_quiet_step (fail))
 refine di rfl (fun K' hK'=> ?_);go_simp
 revert fr sb;with_reducible refine bk (HP _) ?_;rintro e w2 ⟨ec,rfl⟩ fr sb
 refine hK' _ _ (bZ sb) ?_;clear hK' K'
 refine af ?_;try simp only[ox]
 repeat(go_big_quiet_step (fail))
 refine wpQuiet_nil ?_
 refine ae _ _ _ (by kernel_rfl) ?_;try simp only[ox]
 clear qi q1
 go_wp2_with fail
 refine NoPanic.normal ?_
 go_wp2_with fail
 go_ret2
 exact⟨⟨ec,by rw[HST.out];rfl⟩,fr.b4⟩
theorem dW (p:dw) (ho:0≤p.old∧p.old<18446744073709551616) (w:World):Calls Tryz.prog 155 #[p.val] w fun e w'=>e= .returned (.bool p.claimed)∧Below w.heap.size w w':=by
 cases hq:p.now with
 | true=>exact lM p ho hq w
 | false=>exact kX p ho hq w
theorem rB (p:dw) (ho:0≤p.old∧p.old<18446744073709551616) (w:World):Calls Tryz.prog 119 #[p.val] w fun e w'=>e= .returned (.int .u64 p.word)∧Below w.heap.size w w':=by
 cases hq:p.now with
 | true=>exact oI p ho hq w
 | false=>exact nG p ho hq w
theorem mI (p:dw) (ho:0≤p.old∧p.old<18446744073709551616) (aM:Int) (w:World):Calls Tryz.prog 103 #[p.val,.int .i64 aM] w fun e w'=>(∃ ec:Int,e= .returned (.tuple #[.int .u64 (p.desc aM),.int .i64 ec]))∧Below w.heap.size w w':=by
 cases hq:p.now with
 | true=>exact oJ p ho hq aM w
 | false=>exact nH p ho hq aM w
structure oK (L:Ly) (p:Pos):Prop where
 pred:1≤p.pred∧p.pred≤L.nd+4
 curr:0≤p.curr∧p.curr≤L.nd
 pw:(0≤p.pw∧p.pw<18446744073709551616)∧(aE p.pw).next≤L.nd
 cw:(0≤p.cw∧p.cw<18446744073709551616)∧(aE p.cw).next≤L.nd
structure eQ (L:Ly) (u:Int) (f:aC) (N:Int):Prop where
 from_:1≤f.from_∧f.from_≤L.nd+4
 me:f.me=u
 at_:0≤f.at_∧f.at_≤6
 pos:f.ab=false→oK L f.pos
 ab:f.ab=true→f.limit<f.tries∧f.pos=⟨0,0,0,0⟩
 tries:0≤f.tries∧f.tries≤N
 moved:0≤f.moved∧f.moved≤N
 aQ:Nodes L f.aQ∧(f.aQ.length:Int)≤N
structure fM (L:Ly) (f:aC):Prop where
 ab:f.ab=false
 curr:1≤f.at_→1≤f.pos.curr
 cl:f.at_=4→um L f.cl
variable {L:Ly}
theorem eQ.mono {u:Int} {f:aC} {N N':Int} (h:eQ L u f N) (hN:N≤N'):eQ L u f N':=⟨h.from_,h.me,h.at_,h.pos,h.ab,by have:=h.tries;omega,by have:=h.moved;omega,h.aQ.1,by have:=h.aQ.2;omega⟩
theorem ia (L:Ly) (hL:L.Ok):(aE 0).next≤L.nd:=by have:=hL.nd;simp[aE];omega
theorem wD (hL:L.Ok) (u:Int) {t:bq} (ht:t.may=true) (limit:Int):eQ L u (.new L u t.head t.lC limit) 0∧fM L (.new L u t.head t.lC limit):=by
 have hk:=(bq.rng ht).key
 have hn:=hL.nd
 have hh:0≤t.head∧t.head≤3:=by unfold bq.head;split<;>omega
 have hp:1≤L.head t.head∧L.head t.head≤L.nd+4:=by simp only[Ly.head];omega
 exact⟨⟨hp,rfl,by simp[aC.new],fun _=>⟨hp,by simp only[aC.new];omega,⟨by simp[aC.new],ia L hL⟩,⟨by simp[aC.new],ia L hL⟩⟩,fun h=>by simp[aC.new] at h,by simp[aC.new],by simp[aC.new],⟨fun x hx=>by simp[aC.new] at hx,by simp[aC.new]⟩⟩,rfl,fun h=>by simp[aC.new] at h,fun h=>by simp[aC.new] at h⟩
structure yL (L:Ly) (u N:Int) (r:Bool×aC):Prop where
 ok:eQ L u r.2 N
 live:r.1=false→fM L r.2
theorem sV {u N:Int} {f:aC} (h1:1≤f.from_∧f.from_≤L.nd+4) (h2:f.me=u) (h3:0≤f.at_∧f.at_≤6) (h4:oK L f.pos) (h5:0≤f.tries∧f.tries≤N) (h6:0≤f.moved∧f.moved≤N+1) (h7:Nodes L f.aQ∧(f.aQ.length:Int)≤N+1):eQ L u f.aU (N+1)∧f.aU.ab=f.over:=by
 refine⟨⟨h1,h2,h3,fun e=> ?_,fun e=> ?_,by simp only[aC.aU];omega,h6,h7⟩,rfl⟩
 ·have e':f.over=false:=e
  simp only[aC.aU,e',Bool.false_eq_true,if_false];exact h4
 ·have e':f.over=true:=e
  refine⟨?_,by simp only[aC.aU,e',if_true]⟩
  unfold aC.over at e'
  exact of_decide_eq_true e'
theorem wE {u N:Int} {f:aC} (h:eQ L u f N) (ha:f.ab=false):eQ L u f.aU (N+1)∧f.aU.ab=f.over:=
 sV h.from_ h.me h.at_ (h.pos ha) h.tries (by have:=h.moved;omega) ⟨h.aQ.1,by have:=h.aQ.2;omega⟩
theorem sW {u N:Int} {f:aC} (h:eQ L u f N) (ha:f.ab=false) (hN:0≤N):eQ L u f.anew N∧fM L f.anew:=by
 have hp:=h.pos ha
 exact⟨⟨h.from_,h.me,by simp[aC.anew],fun _=>⟨h.from_,hp.curr,hp.pw,hp.cw⟩,fun e=>by simp[aC.anew,ha] at e,h.tries,by simp only[aC.anew];omega,h.aQ⟩,ha,fun e=>by simp[aC.anew] at e,fun e=>by simp[aC.anew] at e⟩
theorem sX (hL:L.Ok) {u N:Int} {f:aC} (h:eQ L u f N) (ha:f.ab=false) (hN:0≤N) {x:Int} (hx:(0≤x∧x<18446744073709551616)∧(aE x).next≤L.nd):yL L u N (f.take x):=by
 have hp:=h.pos ha
 have hw:=(bG x).next
 unfold aC.take
 split
 ·have:=sW h ha hN
  exact⟨this.1,fun _=>this.2⟩
 ·refine⟨⟨h.from_,h.me,by simp,fun _=>⟨hp.pred,by simp only;omega,hx,⟨by simp,ia L hL⟩⟩,fun e=>by simp[ha] at e,h.tries,h.moved,h.aQ⟩,fun e=>⟨ha,fun _=> ?_,fun e=>by simp at e⟩⟩
  simp only[decide_eq_false_iff_not] at e
  simp only
  omega
theorem oL (hL:L.Ok) {u N:Int} {f:aC} (h:eQ L u f N) (ha:f.ab=false) (hN:0≤N) {x:Int} (hx:(0≤x∧x<18446744073709551616)∧(aE x).next≤L.nd):yL L u (N+1) (f.cN x):=by
 have h1:=wE h ha
 unfold aC.cN
 split
 ·exact⟨h1.1,fun e=>by simp at e⟩
 ·rename_i e
  exact sX hL h1.1 (by rw[h1.2];simpa using e) (by omega) hx
theorem Dh {u N:Int} {f:aC} (h:eQ L u f N) (ha:f.ab=false) (hN:0≤N):eQ L u (f.move L).2.2 (N+1)∧((f.move L).2.1=true→(f.move L).2.2={ f with moved:=f.moved+1 }∧(f.move L).1=false)∧((f.move L).2.1=false→(f.move L).1=false→fM L (f.move L).2.2):=by
 have h2:=h.moved
 have hm1:eQ L u { f with moved:=f.moved+1 } (N+1):=⟨h.from_,h.me,h.at_,h.pos,h.ab,by have:=h.tries;simp only;omega,by simp only;omega,h.aQ.1,by have:=h.aQ.2;simp only;omega⟩
 unfold aC.move
 split
 ·exact⟨hm1,fun _=>⟨rfl,rfl⟩,fun e=>by simp at e⟩
 ·have ht:=sV (L:=L) (u:=u) (N:=N) (f:={ f with moved:=f.moved+1 }) h.from_ h.me h.at_ (h.pos ha) h.tries (by simp only;omega) ⟨h.aQ.1,by have:=h.aQ.2;simp only;omega⟩
  split
  ·exact⟨ht.1,fun e=>by simp at e,fun _ e=>by simp at e⟩
  ·rename_i e
   have:=sW ht.1 (by rw[ht.2];exact Bool.eq_false_iff.2 e) (by omega)
   exact⟨this.1,fun e=>by simp at e,fun _ _=>this.2⟩
theorem Di {u N:Int} {f:aC} (h:eQ L u f N) (hl:fM L f) (h3:f.at_=3) {x:Int} (hx:(0≤x∧x<18446744073709551616)∧(aE x).next≤L.nd):yL L u N (f.look x):=by
 have hp:=h.pos hl.ab
 have hc:=hl.curr (by omega)
 have key:∀ (a:Int) (c:gR),0≤a∧a≤6→eQ L u { f with pos:={ f.pos with cw:=x },at_:=a,cl:=c } N:=fun a c ha=>⟨h.from_,h.me,ha,fun _=>⟨hp.pred,hp.curr,hp.pw,hx⟩,fun e=>by simp[hl.ab] at e,h.tries,h.moved,h.aQ⟩
 unfold aC.look
 simp only
 split
 ·split
  ·exact⟨by have:=key f.at_ f.cl h.at_;exact this,fun e=>by simp at e⟩
  ·exact⟨key 6 f.cl (by omega),fun _=>⟨hl.ab,fun _=>hc,fun e=>by simp at e⟩⟩
 ·split
  ·exact⟨key 4 _ (by omega),fun _=>⟨hl.ab,fun _=>hc,fun _=>sB ⟨hc,by have:=hp.curr;omega⟩⟩⟩
  ·split
   ·exact⟨key 4 _ (by omega),fun _=>⟨hl.ab,fun _=>hc,fun _=>sB hp.pred⟩⟩
   ·exact⟨key 5 f.cl (by omega),fun _=>⟨hl.ab,fun _=>hc,fun e=>by simp at e⟩⟩
theorem A8 {f:aC} (hp:oK L f.pos) (_:L.Ok):(aE f.cut).next≤L.nd:=by
 have h1:=(bG f.pos.cw).next
 unfold aC.cut
 rw[gU (Wd.tz (bG _) (by omega))]
 exact hp.cw.2
variable {M:ML} {m:Mm}
theorem jc {u N:Int} {f:aC} (hL:M.L.Ok) (hm:ff M m) (hu:0≤u∧u<M.L.th) (hN:0≤N) (h:eQ M.L u f N) (hl:fM M.L f):Safe M m (ax M m f).2.1∧yL M.L u (N+1) ((ax M m f).1,(ax M m f).2.2):=by
 have hn:=hL.nd
 have hp:=h.pos hl.ab
 have hw:∀ a,1≤a→a≤M.L.nd+4→(0≤ld M m a∧ld M m a<18446744073709551616)∧(aE (ld M m a)).next≤M.L.nd:=fun a h1 h2=>⟨nR hm.rng a,hm.word a h1 h2⟩
 have up:∀ {r:Bool×aC},yL M.L u N r→yL M.L u (N+1) r:=fun g=>⟨g.ok.mono (by omega),g.live⟩
 have hcr:∀ x:Int,0≤x∧x≤M.L.nd→0≤x∧x<18446744073709551616:=fun x hx=>by omega
 unfold ax
 split
 ·simp only
  refine⟨.refl hm,?_⟩
  split
  ·exact oL hL h hl.ab hN (hw _ hp.pred.1 hp.pred.2)
  ·exact up (sX hL h hl.ab hN (hw _ hp.pred.1 hp.pred.2))
 ·split
  ·refine⟨?_,up ⟨⟨h.from_,h.me,by simp,h.pos,h.ab,h.tries,h.moved,h.aQ⟩,fun _=>⟨hl.ab,fun _=>hl.curr (by omega),fun e=>by simp at e⟩⟩⟩
   rw[h.me]
   exact my hm (hcr _ hp.curr) hL hu (by omega)
  ·split
   ·simp only
    split
    ·exact⟨.refl hm,oL hL h hl.ab hN (hw _ hp.pred.1 hp.pred.2)⟩
    ·exact⟨.refl hm,up ⟨⟨h.from_,h.me,by simp,h.pos,h.ab,h.tries,h.moved,h.aQ⟩,fun _=>⟨hl.ab,fun _=>hl.curr (by omega),fun e=>by simp at e⟩⟩⟩
   ·split
    ·rename_i h3
     have hc:=hl.curr (by omega)
     exact⟨.refl hm,up (Di h hl h3 (hw _ hc (by have:=hp.curr;omega)))⟩
    ·split
     ·rename_i h4
      have hc:=sD hL hm (hl.cl h4)
      simp only
      split
      ·rename_i hr
       have h0:eQ M.L u { f with cl:=(bz M m f.cl).2.2,at_:=0 } N:=⟨h.from_,h.me,by simp,h.pos,h.ab,h.tries,h.moved,h.aQ⟩
       have ht:=wE h0 hl.ab
       refine⟨hc.1,ht.1,fun e=>⟨by rw[ht.2];exact e,fun e2=>by simp[aC.aU] at e2,fun e2=>by simp[aC.aU] at e2⟩⟩
      ·rename_i hr
       exact⟨hc.1,up ⟨⟨h.from_,h.me,h.at_,h.pos,h.ab,h.tries,h.moved,h.aQ⟩,fun _=>⟨hl.ab,hl.curr,fun _=>hc.2 (by simpa using hr)⟩⟩⟩
     ·split
      ·rename_i h5
       have hc:=hl.curr (by omega)
       have hcut:=A8 hp hL
       split
       ·have h6:eQ M.L u { f with aQ:=f.aQ++[f.pos.curr] } (N+1):=by
         have h7:=h.aQ
         refine⟨h.from_,h.me,h.at_,h.pos,h.ab,by have:=h.tries;simp only;omega,by have:=h.moved;simp only;omega,h7.1.app (fun x hx=>by simp at hx;subst hx;exact⟨hc,hp.curr.2⟩),by simp;omega⟩
        have hmv:eQ M.L u (({ f with aQ:=f.aQ++[f.pos.curr] }:aC).move M.L).2.2 (N+1)∧(((({ f with aQ:=f.aQ++[f.pos.curr] }:aC).move M.L).2.1=true→(({ f with aQ:=f.aQ++[f.pos.curr] }:aC).move M.L).2.2.ab=false))∧((({ f with aQ:=f.aQ++[f.pos.curr] }:aC).move M.L).2.1=false→(({ f with aQ:=f.aQ++[f.pos.curr] }:aC).move M.L).1=false→fM M.L (({ f with aQ:=f.aQ++[f.pos.curr] }:aC).move M.L).2.2):=by
         have h8:=h.moved
         have h9:=h.tries
         have h10:=h6.aQ
         unfold aC.move
         split
         ·exact⟨⟨h.from_,h.me,h.at_,h.pos,h.ab,by simp only;omega,by simp only;omega,h10⟩,fun _=>hl.ab,fun e=>by simp at e⟩
         ·have ht:=sV (L:=M.L) (u:=u) (N:=N) (f:={ f with aQ:=f.aQ++[f.pos.curr],moved:=f.moved+1 }) h.from_ h.me h.at_ hp h9 (by simp only;omega) h10
          split
          ·exact⟨ht.1,fun e=>by simp at e,fun _ e=>by simp at e⟩
          ·rename_i e
           have:=sW ht.1 (by rw[ht.2];exact Bool.eq_false_iff.2 e) (by omega)
           exact⟨this.1,fun e=>by simp at e,fun _ _=>this.2⟩
        simp only
        split
        ·rename_i hr
         exact⟨gd hm (dO _) hL (by have:=hp.pred;omega) hcut,sX hL hmv.1 (hmv.2.1 hr) (by omega) ⟨dO _,hcut⟩⟩
        ·rename_i hr
         exact⟨gd hm (dO _) hL (by have:=hp.pred;omega) hcut,hmv.1,hmv.2.2 (by simpa using hr)⟩
       ·have h0:eQ M.L u { f with at_:=0 } N:=⟨h.from_,h.me,by simp,h.pos,h.ab,h.tries,h.moved,h.aQ⟩
        have ht:=wE h0 hl.ab
        exact⟨.refl hm,ht.1,fun e=>⟨by rw[ht.2];exact e,fun e2=>by simp[aC.aU] at e2,fun e2=>by simp[aC.aU] at e2⟩⟩
      ·have hat:=h.at_
       have hc:=hl.curr (by omega)
       have hcn:=hp.curr
       have h0:eQ M.L u { f with pos:={ f.pos with pred:=f.pos.curr },at_:=0 } N:=⟨h.from_,h.me,by simp,fun _=>⟨⟨hc,by simp only;omega⟩,hcn,hp.pw,hp.cw⟩,fun e=>by simp[hl.ab] at e,h.tries,h.moved,h.aQ⟩
       have hmv:=Dh h0 hl.ab hN
       simp only
       refine⟨?_,hmv.1,fun e=> ?_⟩
       ·rw[h.me]
        exact my hm (hcr _ hp.curr) hL hu (by omega)
       ·cases hq:(({ f with pos:={ f.pos with pred:=f.pos.curr },at_:=0 }:aC).move M.L).2.1 with
        | true=>
         have:=(hmv.2.1 hq).1
         rw[this]
         exact⟨hl.ab,fun e=>by simp at e,fun e=>by simp at e⟩
        | false=>exact hmv.2.2 hq e
def fw (w:World) (C:Nat→Nat) (c sg b:Nat) (pf pc pp:Value) (f:bj):Prop:=SB w C c b 187 #[.pointer (some ⟨sg,0,none⟩),.int .i64 f.res.code,.bool f.res.ok,.int .i64 f.res.val,.bool f.failed,.int .i64 f.tries,.int .i64 f.task.sh,.int .i64 f.task.kind,.int .i64 f.task.key,.int .i64 f.most,.int .i64 f.at_,.bool f.plan.now,.int .i64 f.plan.res.code,.bool f.plan.res.ok,.int .i64 f.plan.res.val,.int .i64 f.plan.addr,.int .u64 f.plan.old,.int .i64 f.plan.next,.bool f.plan.mark,.int .i64 f.plan.pops,pf,pc,pp]
structure cO (w:World) (C:Nat→Nat) (c sg b:Nat) (L:Ly) (f:bj):Prop where
 ex:∃ pf pc pp,fw w C c sg b pf pc pp f∧(f.at_=0→∃ bf,pf= .pointer (some ⟨bf,0,none⟩)∧eK w C c bf L f.find)∧
  (f.at_=1→∃ bc,pc= .pointer (some ⟨bc,0,none⟩)∧gl w C c bc L f.cl)∧(f.at_=2→∃ bp,pp= .pointer (some ⟨bp,0,none⟩)∧jK w C c sg bp f.aD)
def LC:List (Option TypeId):=[some 187,some 157,some 3,some 230,some 236]
variable {w w':World} {C C':Nat→Nat} {K:Nat→Prop} {T:List (Option TypeId)} {c sg b:Nat}
theorem cO.mv {f:bj} (h:cO w C c sg b L f) (k:Fr C K T w w') (a:aB w.heap.size C C') (hk:¬ K c∨dr LC T):cO w' C' c sg b L f:=by
 obtain⟨pf,pc,pp,h1,h2,h3,h4⟩:=h.ex
 refine⟨pf,pc,pp,SB.mv h1 k a (hk.imp id (fun h=>h _ (by decide))),fun e=> ?_,fun e=> ?_,fun e=> ?_⟩
 ·obtain⟨bf,e1,e2⟩:=h2 e
  exact⟨bf,e1,e2.mv k a (hk.imp id (fun h x hx=>h x (by revert x;decide)))⟩
 ·obtain⟨bf,e1,e2⟩:=h3 e
  exact⟨bf,e1,e2.mv k a (hk.imp id (fun h=>h _ (by decide)))⟩
 ·obtain⟨bf,e1,e2⟩:=h4 e
  exact⟨bf,e1,e2.mv k a (hk.imp id (fun h x hx=>h x (by revert x;decide)))⟩
instance {w:World} {C:Nat→Nat} {c sg b:Nat} {L:Ly} {f:bj}:Mv (cO w C c sg b L f) w C LC (fun w' C'=>cO w' C' c sg b L f):=⟨fun h k a hk=>h.mv k a (.inr hk)⟩
structure OW (C:Nat→Nat) (K:Nat→Prop) (LX:List (Option TypeId)) (v:Value) (P:World→(Nat→Nat)→Prop) (w:World) (e:Ending) (w':World):Prop where
 ret:e= .returned v
 own:∃ C',aB w.heap.size C C'∧P w' C'
 fr:Fr C K LX w w'
structure bj.Ok (f:bj) (N:Int):Prop where
 may:f.task.may=true
 tries:0≤f.tries∧f.tries≤N
 most:0≤f.most∧f.most≤1000
theorem bq.oM {t:bq} (h:t.may=true):0≤t.head∧t.head≤1000:=by
 obtain⟨-,-,h3⟩:=bq.rng h
 unfold bq.head
 split<;>omega
variable {s:Nat} {me:Int} {t:cV}
theorem rC {f:bj} {pf pc pp:Value} (hL:L.Ok) (hst:al w C s sg L me t) (sb:fw w C c sg b pf pc pp f) (hok:f.Ok 1000000):Calls Tryz.prog 163 #[.pointer (some ⟨b,0,none⟩)] w (OW C (K0 c) [some 187] (.tuple #[]) (fun w' C'=>cO w' C' c sg b L (f.kn L me)) w):=by
 obtain⟨⟨A,n,cap,hn,st,hrow⟩,hme,hsp,hsm⟩:=hst
 unfold fw at sb
 obtain⟨hmay,htr,hmo⟩:=hok
 obtain⟨⟨rc,ro,rv⟩,failed,tries,⟨sh,kind,key⟩,most,at_,⟨g0,⟨g1,g2,g3⟩,g4,g5,g6,g7,g8⟩,find,cl,aD⟩:=f
 simp only at sb hmay htr hmo
 have hkr:=(bq.rng hmay).key
 have Ez:=bq.oM hmay
 simp only at hkr
 have oN:∀ W,Calls Tryz.prog 127 #[.agg #[.int .i64 sh,.int .i64 kind,.int .i64 key]] W fun e w'=>e= .returned (.agg #[.int .i64 (bq.head ⟨sh,kind,key⟩),.int .i64 (bq.lC ⟨sh,kind,key⟩)])∧Below W.heap.size W w':=fun W=>kN ⟨sh,kind,key⟩ (by simp only;omega) W
 obtain⟨hd,hhd⟩:∃ hd,bq.head ⟨sh,kind,key⟩=hd:=⟨_,rfl⟩
 obtain⟨pk,hpk⟩:∃ pk,bq.lC ⟨sh,kind,key⟩=pk:=⟨_,rfl⟩
 simp only[hhd,hpk] at oN Ez
 have e6:wrap64 (most - tries)=most - tries:=IntWalk.wrap64_in _ (by omega)
 have Hx:=fun C' W=>oD L hL me hd pk (most - tries) Ez C' c W
 have HST:Hid (bj.kn L me (⟨⟨rc,ro,rv⟩,failed,tries,⟨sh,kind,key⟩,most,at_,⟨g0,⟨g1,g2,g3⟩,g4,g5,g6,g7,g8⟩,find,cl,aD⟩:bj)=(⟨⟨rc,ro,rv⟩,failed,tries,⟨sh,kind,key⟩,most,0,⟨g0,⟨g1,g2,g3⟩,g4,g5,g6,g7,g8⟩,.new L me hd pk (most - tries),cl,aD⟩:bj)):=Lib.hid (by unfold bj.kn;simp only[hhd,hpk])
 clear hhd hpk hn hrow hsm
 go_enter Tryz.func163,Tryz.ntmps163
 have fr:=Fr.refl C (K0 c) [some 187] w
 have ag:=aB.refl w.heap.size C
 go_wp2_with fail
 revert st;revert sb;revert fr;refine bk (oN _) ?_;rintro e w1 rfl fr sb st
 have z1:=And.intro sb st
 revert fr sb st;refine bx1 195 #[.int .i64 hd,.int .i64 pk] ?_;rintro w2 Hy LD fr pb sb st
 go_wp2_with fail
 clear Hy z1
 revert fr pb sb st;refine bD ?_;intro fr pb sb st
 obtain⟨q1,q2,q3,qi⟩:=cF sb st pb
 refine aY sb st pb 29 [] [0,1,2,3,4,5,6,7,8,9,10,11,12,13,14,15,16,17,18,19,20,21,22,23,24,25,26,27,28] [29,30,31,32,33,34,35] (by kernel_rfl) (by kernel_rfl) ?_
 refine af ?_;try simp only[ox]
 repeat(go_big_quiet_step (fail))
 refine wpQuiet_nil ?_
 refine ae _ _ _ (by kernel_rfl) ?_;try simp only[ox]
 clear qi q1 q2 q3
 go_wp2_with fail
 revert ag fr pb sb st;refine fL (Hx C _) ?_;rintro w3 bf C3 ag fr hfi pb sb st
 have z2:=And.intro sb (And.intro st pb)
 revert fr hfi pb st;refine st1 sb 10 (.int .i64 0) (fun _ h=>h) ag ?_;clear sb;rintro w4 e1 fr sb hfi pb st
 simp only[sx] at sb
 have z3:=And.intro sb (And.intro st pb)
 revert fr hfi pb st;refine st1 sb 20 (.pointer (some ⟨bf,0,none⟩)) (fun _ h=>h) ag ?_;clear sb;rintro w5 e2 fr sb hfi pb st
 simp only[sx] at sb
 go_wp2_with fail
 refine NoPanic.normal ?_
 go_wp2_with fail
 clear z2 e1 z3 e2
 go_end0
 exact⟨rfl,⟨_,ag,by rw[HST.out];exact⟨_,_,_,sb,fun _=>⟨bf,rfl,hfi⟩,fun h=>by simp at h,fun h=>by simp at h⟩⟩,fr⟩
theorem ib {f:bj} {pf pc pp:Value} (sb:fw w C c sg b pf pc pp f) (k:Int) (hk:0≤k∧k≤1000000) (ht:0≤f.tries∧f.tries≤1000000):Calls Tryz.prog 153 #[.pointer (some ⟨b,0,none⟩),.int .i64 k] w (OW C (K0 c) [some 187] (.bool (f.over k)) (fun w' C'=>C'=C∧fw w' C c sg b pf pc pp (f.aU k)) w):=by
 unfold fw at sb
 obtain⟨⟨rc,ro,rv⟩,failed,tries,⟨sh,kind,key⟩,most,at_,⟨g0,⟨g1,g2,g3⟩,g4,g5,g6,g7,g8⟩,find,cl,aD⟩:=f
 simp only at sb ht
 have e6:wrap64 (tries+k)=tries+k:=IntWalk.wrap64_in _ (by omega)
 obtain⟨ov,hov⟩:∃ ov,bj.over (⟨⟨rc,ro,rv⟩,failed,tries,⟨sh,kind,key⟩,most,at_,⟨g0,⟨g1,g2,g3⟩,g4,g5,g6,g7,g8⟩,find,cl,aD⟩:bj) k=ov:=⟨_,rfl⟩
 have d2:decide (tries+k>most)=ov:=hov
 have HST:Hid (bj.aU (⟨⟨rc,ro,rv⟩,failed,tries,⟨sh,kind,key⟩,most,at_,⟨g0,⟨g1,g2,g3⟩,g4,g5,g6,g7,g8⟩,find,cl,aD⟩:bj) k=(⟨⟨rc,ro,rv⟩,ov,tries+k,⟨sh,kind,key⟩,most,at_,⟨g0,⟨g1,g2,g3⟩,g4,g5,g6,g7,g8⟩,find,cl,aD⟩:bj)):=Lib.hid (by unfold bj.aU;rw[hov])
 rw[hov]
 clear hov
 go_enter Tryz.func153,Tryz.ntmps153
 have fr:=Fr.refl C (K0 c) [some 187] w
 have ag:=aB.refl w.heap.size C
 have z1:=sb
 revert fr;refine Jv w C ?_;refine st1 sb 5 (.int .i64 (tries+k)) (fun _ h=>h) ag ?_;clear sb;rintro w1 e1 fr sb -
 simp only[sx] at sb
 go_wp2_with fail
 clear z1 e1
 revert fr sb;refine bD ?_;intro fr sb
 obtain⟨q1,qi⟩:=aV sb
 refine ar sb 12 [] [0,1,2,3,4,5,6,7,8,9,10,11] [12] (by kernel_rfl) (by kernel_rfl) ?_
 refine af ?_;try simp only[ox]
 repeat(go_big_quiet_step (fail))
 refine wpQuiet_nil ?_
 refine ae _ _ _ (by kernel_rfl) ?_;try simp only[ox]
 clear qi q1
 have z2:=sb
 revert fr;refine Jv (w1.drew) C ?_;refine kT sb 4 (.bool ov) (fun _ h=>h) ag ?_;clear sb;rintro w2 e1 fr sb -
 simp only[sx] at sb
 go_wp2_with fail
 try rw[e1]
 refine NoPanic.normal ?_
 go_wp2_with fail
 clear z2 e1
 go_ret
 exact⟨rfl,⟨C,ag,rfl,by rw[HST.out];exact sb⟩,fr⟩
end Go.Proofs.YtbcnnhlpilmmbaaGreat
