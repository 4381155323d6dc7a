/- What the functions that the law reaches compute, and the walks that show it. -/
import Derived.Test.YtinakhioihhgfaaGreatDoorEngP
import Derived.Test.YtinakhioihhgfaaGreatDoorEngO
import Derived.Test.YtinakhioihhgfaaGreatDoorEngX
import Derived.Test.YtinakhioihhgfaaGreatDoorEngQ
import Derived.Test.YtinakhioihhgfaaGreatDoorEngY
import Derived.Test.YtinakhioihhgfaaGreatDoorEngZ
import Derived.Test.YtinakhioihhgfaaGreatDoorProg
import Derived.Lib.MakeNoZero
import Derived.Test.YtinakhioihhgfaaGreatDoorGenMessageHeadsP1
set_option linter.unusedVariables false
set_option linter.unusedSimpArgs false
namespace Go.E
open Go.RowKit Go.Proofs
def rdB (l:List Int):S_cursor_Reader:=⟨⟨l,false⟩⟩
def opX (sa ho:Int) (id:S_api_Addr) (fs:List S_api_Family):S_message_opening:=⟨⟨sa,ho,id,fs,false⟩,⟨0,0,[]⟩⟩
def idX:S_api_Addr:=⟨4,[10,0,0,1,0,0,0,0,0,0,0,0,0,0,0,0]⟩
theorem cap1_walk (w:World) (M:List Nat) (hM:MS M w) (gx gr:Nat) (hne:gx≠gr) (hgx:gx∈M) (hgr:gr∈M) (sa ho:Int) (id:S_api_Addr) (hX:Box w gx (cS_message_opening (opX sa ho id []) none 0 none 0)) (ao:Option Addr) (cap:Nat) (f1:RSl (rInt .u8) 5 w M ao cap [0,1,0,5]) (hR:Box w gr (cS_cursor_Reader (rdB [0,1,0,5]) ao cap)) :
    To Tryz.prog 74 [.pointer (some ⟨gx,0,none⟩),.int .i64 1,.pointer (some ⟨gr,0,none⟩)] w fun v w'=>v=.bool true∧∃ (a1:Option Addr) (c1:Nat),RSl rS_api_Family 40 w' M a1 c1 [⟨4,5⟩]∧Box w' gx (cS_message_opening (opX sa ho id [⟨4,5⟩]) a1 c1 none 0)∧Chg [gx,gr] w w'∧MS M w':=by
  have hLeft:cursor_rest_Left.f (rdB [0,1,0,5]).rest=some 4:=rfl
  have hFam:message_readFamily.f 10 (rdB [0,1,0,5])=some (⟨4,5⟩,rdB []):=by kernel_rfl
  have hKn:message_known.f ⟨4,5⟩=some true:=by kernel_rfl
  have hCon:api_Family_61.f 10 [] ⟨4,5⟩=some false:=by kernel_rfl
  refine ent Tryz.func74 rfl [(0,.pointer (some ⟨gx,0,none⟩)),(1,.int .i64 1),(2,.pointer (some ⟨gr,0,none⟩))] rfl (by rfl) fun a ha=>?_
  refine wp_seq_k fun K hK=>?_
  refine wp_region_lit ?_
  refine sf ha 1 [(0,pt gx 0),(1,.int .i64 1),(2,pt gr 0)] fun a ha=>?_
  refine hK _ _ ?_;clear hK K
  refine wp_seq_k fun K hK=>?_
  refine wp_region_lit ?_
  refine sf ha 3 [(11,pt gr 0),(0,pt gx 0),(1,.int .i64 1),(2,pt gr 0)] fun a ha=>?_
  refine cL ha (cursor_rest_Left.walk w M hM gr _ ao cap f1 hR hgr 4 hLeft) ?_
  rintro _ w1 ⟨rfl,c1,hM1⟩ a ha
  refine sf ha 1 [(7,.int .i64 4),(0,pt gx 0),(1,.int .i64 1),(2,pt gr 0)] fun a ha=>?_
  refine hK _ _ ?_;clear hK K
  have hX:=hX.chg c1 (fun h=>nomatch h)
  have hR:=hR.chg c1 (fun h=>nomatch h)
  have f1:=f1.chg c1 (Ok.nil _ _) (Ok.refl _ _)
  refine wp_seq_k fun K hK=>?_
  refine wsr fun K2 hK2=>?_
  refine sf ha 1 [(13,.int .i64 1),(7,.int .i64 4),(0,pt gx 0),(2,pt gr 0)] fun a ha=>?_
  refine hK2 _ _ ?_;clear hK2 K2
  refine wp_block ?_
  refine wsr fun K2 hK2=>?_
  refine sf ha 2 [(14,.bool true),(7,.int .i64 4),(0,pt gx 0),(2,pt gr 0)] fun a ha=>?_
  refine hK2 _ _ ?_;clear hK2 K2
  refine cnd ha rfl (fun _=>?_) (fun h=>nomatch h)
  refine wsr fun K2 hK2=>?_
  refine sf ha 1 [(16,pt gr 0),(7,.int .i64 4),(0,pt gx 0)] fun a ha=>?_
  refine cL ha (message_readFamily.walk w1 M hM1 gr _ ao cap f1 hR hgr 10 _ hFam) ?_
  rintro _ w2 ⟨ao2,cap2,rfl,f2,hR,c2,hM2⟩ a ha
  have hX:=hX.chg c2 (by simp [hne])
  refine al (cs:=cS_api_Family ⟨0,0⟩) (z:=.agg (cS_api_Family ⟨0,0⟩).toArray) ha (fun w=>by kernel_rfl) rfl rfl rfl rfl fun a w3 g8 hN ha=>?_
  refine stA (l:=cS_api_Family ⟨4,5⟩) ha rfl rfl rfl (by kernel_rfl) rfl rfl hN.box rfl fun a w4 ha hb2 c4 _=>?_
  have h8:Box w4 g8 (cS_api_Family ⟨4,5⟩):=hb2.cast (by kernel_rfl)
  have q4:Chg [] w2 w4:=hN.chg.trans c4 (Ok.one (.inr hN.ge))
  have hX:=hX.chg q4 (fun h=>nomatch h)
  have hM4:=hM2.chg q4
  have C4:Chg [gx,gr] w w4:=((c1.mono (Ok.nil _ _)).trans c2 (Ok.one (.inl (by simp)))).trans q4 (Ok.nil _ _)
  refine wpl_end ?_
  have ha:=ha.sel (env':=[(8,.pointer (some ⟨g8,0,none⟩)),(7,.int .i64 4),(0,.pointer (some ⟨gx,0,none⟩))]) (by kernel_rfl)
  refine hK2 _ _ ?_;clear hK2 K2
  refine wp_seq_k fun K2 hK2=>?_
  refine wp_seq_k fun K3 hK3=>?_
  refine drq0 (fun w'=>Chg [] w4 w') (by kernel_rfl) (by kernel_rfl) (fun _ h=>h) ?_
  refine qP 0 (.int .i64 4) ha fun a ha=>?_
  refine qP 0 (.bool true) ha fun a ha=>?_
  refine qP 0 (.bool true) ha fun a ha=>?_
  refine qV ha (fun w' hs=>ldR (cs:=cS_api_Family ⟨4,5⟩) (Box.cells (h8.chg hs (fun h=>nomatch h))) ha) fun a ha=>?_
  refine qc (.bool true) ha (by rfl) (by kernel_rfl) (by rfl) (by rfl) (by rfl) (fun w' hs=>(message_known.walk w' [] (MS.nil _) ⟨4,5⟩ true hKn).mono fun v w'' ⟨hv,hc,_⟩=>⟨hv,hs.trans hc (Ok.nil _ _)⟩) fun a ha=>?_
  refine qP 3 (.bool true) ha fun a ha=>?_
  refine qP 0 (.bool true) ha fun a ha=>?_
  refine qP 0 (pt gx 0) ha fun a ha=>?_
  refine qP 0 (pt gx 0) ha fun a ha=>?_
  refine qP 0 (pt gx 0) ha fun a ha=>?_
  refine qP 0 (pt gx 19) ha fun a ha=>?_
  refine qV (v:=.slice none 0 0) ha (fun w' hs=>ld_run ha rfl (by kernel_rfl) ((hX.chg hs (fun h=>nomatch h)).cell' (o:=19) rfl (by kernel_rfl))) fun a ha=>?_
  refine qV ha (fun w' hs=>ldR (cs:=cS_api_Family ⟨4,5⟩) (Box.cells (h8.chg hs (fun h=>nomatch h))) ha) fun a ha=>?_
  refine qc (.bool false) ha (by rfl) (by kernel_rfl) (by rfl) (by rfl) (by rfl) (fun w' hs=>(api_Family_61.walk w' [] (MS.nil _) [] none 0 (RSl.nil (Nat.zero_le _)) ⟨4,5⟩ 10 false hCon).mono fun v w'' ⟨hv,hc,_⟩=>⟨hv,hs.trans hc (Ok.nil _ _)⟩) fun a ha=>?_
  refine qP 0 (.bool true) ha fun a ha=>?_
  refine qP 3 (.bool true) ha fun a ha=>?_
  refine wpQuiet_nil ?_
  intro w5 c5
  refine wpl_end ?_
  have hX:=hX.chg c5 (fun h=>nomatch h)
  have h8:=h8.chg c5 (fun h=>nomatch h)
  have hM5:=hM4.chg c5
  have C5:=C4.trans c5 (Ok.nil _ _)
  have ha:=ha.sel (env':=[(33,.bool true),(8,.pointer (some ⟨g8,0,none⟩)),(7,.int .i64 4),(0,.pointer (some ⟨gx,0,none⟩))]) (by kernel_rfl)
  refine hK3 _ _ ?_;clear hK3 K3
  refine cnd ha rfl (fun _=>?_) (fun h=>nomatch h)
  refine drl 12 (by kernel_rfl) fun w6 c6=>?_
  have hX:=hX.chg c6 (fun h=>nomatch h)
  have h8:=h8.chg c6 (fun h=>nomatch h)
  have hM6:=hM5.chg c6
  have C6:=C5.trans c6 (Ok.nil _ _)
  have hid:=Chg.refl [] w6
  refine tlp 0 0 (.pointer (some ⟨gx,0,none⟩)) ha hid (hk:=fun a ha=>?_)
  refine tlp 1 0 (.pointer (some ⟨gx,0,none⟩)) ha hid (hk:=fun a ha=>?_)
  refine tlp 2 0 (.pointer (some ⟨gx,0,none⟩)) ha hid (hk:=fun a ha=>?_)
  refine tlp 3 0 (.pointer (some ⟨gx,0,none⟩)) ha hid (hk:=fun a ha=>?_)
  refine tlp 4 0 (.pointer (some ⟨gx,19,none⟩)) ha hid (hk:=fun a ha=>?_)
  refine tlt (v:=.slice none 0 0) 5 ha hid rfl (fun w' hs=>ld_run ha rfl (by kernel_rfl) ((hX.chg hs (fun h=>nomatch h)).cell' (o:=19) rfl (by kernel_rfl))) (hk:=fun a ha=>?_)
  refine tlt (v:=.agg (cS_api_Family ⟨4,5⟩).toArray) 6 ha hid rfl (fun w' hs=>ldR (cs:=cS_api_Family ⟨4,5⟩) (Box.cells (h8.chg hs (fun h=>nomatch h))) ha) (hk:=fun a ha=>?_)
  refine al3 7 (h:=fun K4 hK4=>?_)
  refine bslA (vals:=[.agg (cS_api_Family ⟨4,5⟩).toArray]) (T:=40) (z:=.agg (cS_api_Family ⟨0,0⟩).toArray) ha rfl (by kernel_rfl) rfl (by kernel_rfl) (s:=2) (by kernel_rfl) rfl rfl (fun w=>by kernel_rfl) (by kernel_rfl) rfl rfl rfl fun a w7 gL hL ha=>?_
  have hL:=(show New _ _ _ (.cells (cS_api_Family ⟨4,5⟩++([]:List Value)).toArray 40 (0,0)) from hL)
  refine wpl_end (hK4 _ _ hL.chg ?_);clear hK4 K4
  have fL:Own rS_api_Family 40 w7 ([gL]++M) (some ⟨gL,0,none⟩) 1 [⟨4,5⟩]:=hL.own ⟨cS_api_Family ⟨4,5⟩,_,rfl,rS_api_Family.mk ⟨4,5⟩,rfl⟩ (Nat.le_of_ble_eq_true rfl)
  have hX:=hX.chg hL.chg (fun h=>nomatch h)
  have hM7:=hM6.chg hL.chg
  refine al3 8 (h:=fun K4 hK4=>?_)
  refine app (r:=rS_api_Family) (xs:=[]) (ys:=[⟨4,5⟩]) ha (ElemT.mk' (bytes:=16) (by kernel_rfl)) rfl rfl rfl rfl rfl Own.nil fL.src (by simp) (by decide) fun a w8 aoR capR hOR hcR hkR hlR ha=>?_
  have hcR:Chg [] w7 w8:=hcR
  have c78:=hL.chg.trans hcR (Ok.nil _ _)
  refine wpl_end (hK4 _ _ c78 ?_);clear hK4 K4
  have hX:=hX.chg hcR (fun h=>nomatch h)
  have fR:RSl rS_api_Family 40 w8 M aoR capR [⟨4,5⟩]:=hOR.toRSl (fun _ h=>.inl (mr (mr h))) (fun q hq hqM=>(hkR q hq).elim (fun h=>nomatch h) (fun h=>absurd (hM7 q hqM) (Nat.not_lt.2 h)))
  refine tlp 9 0 (.pointer (some ⟨gx,0,none⟩)) ha c78 (hk:=fun a ha=>?_)
  refine tlp 10 0 (.pointer (some ⟨gx,0,none⟩)) ha c78 (hk:=fun a ha=>?_)
  refine tlp 11 0 (.pointer (some ⟨gx,19,none⟩)) ha c78 (hk:=fun a ha=>?_)
  refine al2 12 (h:=fun K4 hK4=>?_)
  refine st ha rfl rfl rfl (by kernel_rfl) rfl rfl hX (Nat.le_of_ble_eq_true (by kernel_rfl)) fun a w9 ha hb2 c9 _=>?_
  refine wpl_end (hK4 _ _ ?_);clear hK4 K4
  refine dl ?_
  have hX:Box w9 gx (cS_message_opening (opX sa ho id [⟨4,5⟩]) aoR capR none 0):=hb2.cast (by kernel_rfl)
  have fR:=fR.chg c9 (Ok.one (.inl hgx)) (Ok.refl _ _)
  have C9:=(C6.trans c78 (Ok.nil _ _)).trans c9 (Ok.one (.inl (by simp)))
  have hM9:=(hM6.chg c78).chg c9
  have ha:=ha.sel (env':=[(7,.int .i64 4)]) (by kernel_rfl)
  refine hK2 _ _ ?_;clear hK2 K2
  refine wsr fun K2 hK2=>?_
  refine sf ha 3 [(6,.bool true)] fun a ha=>?_
  refine hK2 _ _ ?_;clear hK2 K2
  refine wp_ret ?_
  try simp only [Exit.then,Exit.inBlock,topQ]
  exact rt1 ha rfl rfl ⟨rfl,aoR,capR,fR,hX,C9,hM9⟩
theorem cap65_walk (w:World) (M:List Nat) (hM:MS M w) (gx gr:Nat) (hne:gx≠gr) (hgx:gx∈M) (hgr:gr∈M) (sa ho:Int) (id:S_api_Addr) (a1:Option Addr) (c1:Nat) (fF:RSl rS_api_Family 40 w M a1 c1 [⟨4,5⟩]) (hX:Box w gx (cS_message_opening (opX sa ho id [⟨4,5⟩]) a1 c1 none 0)) (ao:Option Addr) (cap:Nat) (f1:RSl (rInt .u8) 5 w M ao cap [0,0,253,232]) (hR:Box w gr (cS_cursor_Reader (rdB [0,0,253,232]) ao cap)) :
    To Tryz.prog 74 [.pointer (some ⟨gx,0,none⟩),.int .i64 65,.pointer (some ⟨gr,0,none⟩)] w fun v w'=>v=.bool true∧RSl rS_api_Family 40 w' M a1 c1 [⟨4,5⟩]∧Box w' gx (cS_message_opening (opX 65000 ho id [⟨4,5⟩]) a1 c1 none 0)∧Chg [gx,gr] w w'∧MS M w':=by
  have hLeft:cursor_rest_Left.f (rdB [0,0,253,232]).rest=some 4:=rfl
  have hNum:cursor_Reader_Num.f 10 (rdB [0,0,253,232]) 4=some (65000,rdB []):=by kernel_rfl
  refine ent Tryz.func74 rfl [(0,.pointer (some ⟨gx,0,none⟩)),(1,.int .i64 65),(2,.pointer (some ⟨gr,0,none⟩))] rfl (by rfl) fun a ha=>?_
  refine wp_seq_k fun K hK=>?_
  refine wp_region_lit ?_
  refine sf ha 1 [(0,pt gx 0),(1,.int .i64 65),(2,pt gr 0)] fun a ha=>?_
  refine hK _ _ ?_;clear hK K
  refine wp_seq_k fun K hK=>?_
  refine wp_region_lit ?_
  refine sf ha 3 [(11,pt gr 0),(0,pt gx 0),(1,.int .i64 65),(2,pt gr 0)] fun a ha=>?_
  refine cL ha (cursor_rest_Left.walk w M hM gr _ ao cap f1 hR hgr 4 hLeft) ?_
  rintro _ w1 ⟨rfl,cc1,hM1⟩ a ha
  refine sf ha 1 [(7,.int .i64 4),(0,pt gx 0),(1,.int .i64 65),(2,pt gr 0)] fun a ha=>?_
  refine hK _ _ ?_;clear hK K
  have hX:=hX.chg cc1 (fun h=>nomatch h)
  have hR:=hR.chg cc1 (fun h=>nomatch h)
  have f1:=f1.chg cc1 (Ok.nil _ _) (Ok.refl _ _)
  have fF:=fF.chg cc1 (Ok.nil _ _) (Ok.refl _ _)
  refine wp_seq_k fun K hK=>?_
  refine wsr fun K2 hK2=>?_
  refine sf ha 1 [(13,.int .i64 65),(7,.int .i64 4),(0,pt gx 0),(2,pt gr 0)] fun a ha=>?_
  refine hK2 _ _ ?_;clear hK2 K2
  refine wp_block ?_
  refine wsr fun K2 hK2=>?_
  refine sf ha 2 [(14,.bool false),(13,.int .i64 65),(7,.int .i64 4),(0,pt gx 0),(2,pt gr 0)] fun a ha=>?_
  refine hK2 _ _ ?_;clear hK2 K2
  refine cnd ha rfl (fun h=>nomatch h) (fun _=>?_)
  refine wsr fun K2 hK2=>?_
  refine sf ha 2 [(48,.bool false),(13,.int .i64 65),(7,.int .i64 4),(0,pt gx 0),(2,pt gr 0)] fun a ha=>?_
  refine hK2 _ _ ?_;clear hK2 K2
  refine cnd ha rfl (fun h=>nomatch h) (fun _=>?_)
  refine wsr fun K2 hK2=>?_
  refine sf ha 2 [(54,.bool true),(7,.int .i64 4),(0,pt gx 0),(2,pt gr 0)] fun a ha=>?_
  refine hK2 _ _ ?_;clear hK2 K2
  refine cnd ha rfl (fun _=>?_) (fun h=>nomatch h)
  refine wsr fun K2 hK2=>?_
  refine sf ha 2 [(56,pt gx 0),(57,pt gr 0),(7,.int .i64 4)] fun a ha=>?_
  refine cL ha (cursor_Reader_Num.walk w1 M hM1 gr _ ao cap f1 hR hgr 4 10 _ hNum) ?_
  rintro _ w2 ⟨ao2,cap2,rfl,f2,hR,cc2,hM2⟩ a ha
  have hX:=hX.chg cc2 (by simp [hne])
  have fF:=fF.chg cc2 (Ok.one (.inl hgr)) (Ok.refl _ _)
  refine sf ha 3 [(58,.int .i64 65000),(61,pt gx 0),(7,.int .i64 4)] fun a ha=>?_
  refine st ha rfl rfl rfl (by kernel_rfl) rfl rfl hX (Nat.le_of_ble_eq_true (by kernel_rfl)) fun a w3 ha hb2 cc3 _=>?_
  refine wpl_end ?_
  have ha:=ha.sel (env':=[(7,.int .i64 4)]) (by kernel_rfl)
  refine hK2 _ _ ?_;clear hK2 K2
  refine wsr fun K2 hK2=>?_
  refine sf ha 3 [(6,.bool true)] fun a ha=>?_
  refine hK2 _ _ ?_;clear hK2 K2
  refine wp_ret ?_
  try simp only [Exit.then,Exit.inBlock,topQ]
  exact rt1 ha rfl rfl ⟨rfl,fF.chg cc3 (Ok.one (.inl hgx)) (Ok.refl _ _),hb2.cast (by kernel_rfl),((cc1.mono (Ok.nil _ _)).trans cc2 (Ok.one (.inl (by simp)))).trans cc3 (Ok.one (.inl (by simp))),hM2.chg cc3⟩
theorem parameters_walk (w:World) (M:List Nat) (hM:MS M w) (gx gr:Nat) (hne:gx≠gr) (hgx:gx∈M) (hgr:gr∈M) (hX:Box w gx (cS_message_opening (opX 65000 90 idX []) none 0 none 0)) (ao:Option Addr) (cap:Nat) (f1:RSl (rInt .u8) 5 w M ao cap [2,12,1,4,0,1,0,5,65,4,0,0,253,232]) (hR:Box w gr (cS_cursor_Reader (rdB [2,12,1,4,0,1,0,5,65,4,0,0,253,232]) ao cap)) :
    To Tryz.prog 47 [.pointer (some ⟨gx,0,none⟩),.pointer (some ⟨gr,0,none⟩)] w fun v w'=>v=.tuple #[]∧(∃ (ao3:Option Addr) (cap3:Nat),RSl (rInt .u8) 5 w' M ao3 cap3 []∧Box w' gr (cS_cursor_Reader (rdB []) ao3 cap3))∧∃ (a1:Option Addr) (c1:Nat),RSl rS_api_Family 40 w' M a1 c1 [⟨4,5⟩]∧Box w' gx (cS_message_opening (opX 65000 90 idX [⟨4,5⟩]) a1 c1 none 0)∧Chg [gx,gr] w w'∧MS M w':=by
  have hL0:cursor_rest_Left.f (rdB [2,12,1,4,0,1,0,5,65,4,0,0,253,232]).rest=some 14:=rfl
  have hN0:cursor_Reader_Num.f 10 (rdB [2,12,1,4,0,1,0,5,65,4,0,0,253,232]) 1=some (2,rdB [12,1,4,0,1,0,5,65,4,0,0,253,232]):=by kernel_rfl
  have hN1:cursor_Reader_Num.f 10 (rdB [12,1,4,0,1,0,5,65,4,0,0,253,232]) 1=some (12,rdB [1,4,0,1,0,5,65,4,0,0,253,232]):=by kernel_rfl
  have hS0:cursor_Reader_Sub.f (rdB [1,4,0,1,0,5,65,4,0,0,253,232]) 12=some (rdB [1,4,0,1,0,5,65,4,0,0,253,232],rdB []):=by kernel_rfl
  refine ent Tryz.func47 rfl [(0,.pointer (some ⟨gx,0,none⟩)),(1,.pointer (some ⟨gr,0,none⟩))] rfl (by rfl) fun a ha=>?_
  refine wp_block ?_
  refine wp_loop_ghost (fun kk a w5=>(kk=1∧w5=w∧Has a Tryz.f47.ntmps [(0,pt gx 0),(1,pt gr 0)])∨(kk=0∧Has a Tryz.f47.ntmps [(0,.pointer (some ⟨gx,0,none⟩)),(1,.pointer (some ⟨gr,0,none⟩))]∧(∃ (ao3:Option Addr) (cap3:Nat),RSl (rInt .u8) 5 w5 M ao3 cap3 []∧Box w5 gr (cS_cursor_Reader (rdB []) ao3 cap3))∧∃ (a1:Option Addr) (c1:Nat),RSl rS_api_Family 40 w5 M a1 c1 [⟨4,5⟩]∧Box w5 gx (cS_message_opening (opX 65000 90 idX [⟨4,5⟩]) a1 c1 none 0)∧Chg [gx,gr] w w5∧MS M w5)) 1 ?_ ?_
  · exact .inl ⟨rfl,rfl,ha⟩
  clear ha
  rintro kk a w5 (⟨rfl,rfl,ha⟩ | ⟨rfl,ha,⟨ao3,cap3,f3,hR⟩,a1,c1,fF,hX,hC,hM⟩)
  rotate_left
  · refine wp_seq_k fun KA hKA=>?_
    refine wp_seq_k fun KB hKB=>?_
    refine wp_region_lit ?_
    refine sf ha 3 [(10,pt gr 0)] fun a ha=>?_
    refine cL ha (cursor_rest_Left.walk w5 M hM gr _ ao3 cap3 f3 hR hgr 0 rfl) ?_
    rintro _ w6 ⟨rfl,c6,hM6⟩ a ha
    refine sf ha 1 [(12,.bool false)] fun a ha=>?_
    refine hKB _ _ ?_
    refine cnd ha rfl (fun h=>nomatch h) (fun _=>?_)
    refine wx ?_
    exact rt0 ha rfl ⟨rfl,⟨ao3,cap3,f3.chg c6 (Ok.nil _ _) (Ok.refl _ _),hR.chg c6 (fun h=>nomatch h)⟩,a1,c1,fF.chg c6 (Ok.nil _ _) (Ok.refl _ _),hX.chg c6 (fun h=>nomatch h),hC.trans c6 (Ok.nil _ _),hM6⟩
  refine wp_seq_k fun KA hKA=>?_
  refine wp_seq_k fun KB hKB=>?_
  refine wp_region_lit ?_
  refine sf ha 3 [(10,pt gr 0),(0,pt gx 0),(1,pt gr 0)] fun a ha=>?_
  refine cL ha (cursor_rest_Left.walk w5 M hM gr _ ao cap f1 hR hgr 14 hL0) ?_
  rintro _ w6 ⟨rfl,c6,hM6⟩ a ha
  have hX:=hX.chg c6 (fun h=>nomatch h)
  have hR:=hR.chg c6 (fun h=>nomatch h)
  have f1:=f1.chg c6 (Ok.nil _ _) (Ok.refl _ _)
  refine sf ha 1 [(12,.bool true),(0,pt gx 0),(1,pt gr 0)] fun a ha=>?_
  refine hKB _ _ ?_;clear hKB KB
  refine cnd ha rfl (fun _=>?_) (fun h=>nomatch h)
  refine wp_skip ?_
  refine hKA _ _ ?_;clear hKA KA
  refine wp_block ?_
  refine wp_seq_k fun KA hKA=>?_
  refine wp_seq_k fun KB hKB=>?_
  refine wp_region_lit ?_
  refine sf ha 1 [(13,pt gr 0),(0,pt gx 0),(1,pt gr 0)] fun a ha=>?_
  refine cL ha (cursor_Reader_Num.walk w6 M hM6 gr _ ao cap f1 hR hgr 1 10 _ hN0) ?_
  rintro _ w7 ⟨ao2,cap2,rfl,f2,hR,c7,hM7⟩ a ha
  have hX:=hX.chg c7 (by simp [hne])
  refine sf ha 1 [(15,.bool false),(0,pt gx 0),(1,pt gr 0)] fun a ha=>?_
  refine hKB _ _ ?_;clear hKB KB
  refine cnd ha rfl (fun h=>nomatch h) (fun _=>?_)
  refine wp_skip ?_
  refine hKA _ _ ?_;clear hKA KA
  refine wp_seq_k fun KB hKB=>?_
  refine wp_region_lit ?_
  refine sf ha 2 [(20,pt gr 0),(21,pt gr 0),(0,pt gx 0),(1,pt gr 0)] fun a ha=>?_
  refine cL ha (cursor_Reader_Num.walk w7 M hM7 gr _ ao2 cap2 f2 hR hgr 1 10 _ hN1) ?_
  rintro _ w8 ⟨ao3,cap3,rfl,f3,hR,c8,hM8⟩ a ha
  have hX:=hX.chg c8 (by simp [hne])
  refine cL ha (cursor_Reader_Sub.walk w8 M hM8 gr _ ao3 cap3 f3 hR hgr 12 _ hS0) ?_
  rintro _ w9 ⟨gc,ao4,cap4,ao5,cap5,rfl,f4,hBc,f5,hR,hgec,c9,hM9⟩ a ha
  have hX:=hX.chg c9 (by simp [hne])
  have hC9:Chg [gx,gr] w5 w9:=(((c6.mono (Ok.nil _ _)).trans c7 (Ok.one (.inl (by simp)))).trans c8 (Ok.one (.inl (by simp)))).trans c9 (Ok.one (.inl (by simp)))
  have z1:=hgec gc (by simp)
  have z2:=hM8 gx hgx
  have z3:=hM8 gr hgr
  have z4:=c6.size
  have z5:=c7.size
  have z6:=c8.size
  have hxc:gx≠gc:=by omega
  have hrc:gr≠gc:=by omega
  refine sf ha 1 [(4,pt gc 0),(0,pt gx 0),(1,pt gr 0)] fun a ha=>?_
  refine hKB _ _ ?_;clear hKB KB
  refine wp_seq_k fun KB hKB=>?_
  refine wp_region_lit ?_
  refine sf ha 3 [(26,pt gr 0),(4,pt gc 0),(0,pt gx 0),(1,pt gr 0)] fun a ha=>?_
  refine cL ha (cursor_rest_Bad.walk w9 _ hM9 gr _ ao5 cap5 f5 hR (by simp [hgr]) false rfl) ?_
  rintro _ w10 ⟨rfl,c10,hM10⟩ a ha
  have hC10:=hC9.trans c10 (Ok.nil _ _)
  have hX:=hX.chg c10 (fun h=>nomatch h)
  have hR:=hR.chg c10 (fun h=>nomatch h)
  have hBc:=hBc.c0 c10
  have f4:=f4.chg c10 (Ok.nil _ _) (Ok.refl _ _)
  have f5:=f5.chg c10 (Ok.nil _ _) (Ok.refl _ _)
  refine sf ha 2 [(5,.bool true),(4,pt gc 0),(0,pt gx 0),(1,pt gr 0)] fun a ha=>?_
  refine hKB _ _ ?_;clear hKB KB
  refine wp_seq_k fun KD hKD=>?_
  refine wp_block ?_
  refine wp_loop_ghost (fun kk a w11=>Has a Tryz.f47.ntmps [(5,.bool true),(4,pt gc 0),(0,pt gx 0),(1,pt gr 0)]∧Chg [gx,gc] w10 w11∧MS ([gc]++M) w11∧((kk=2∧∃ (ao3:Option Addr) (cap3:Nat) (a1:Option Addr) (c1:Nat),RSl (rInt .u8) 5 w11 ([gc]++M) ao3 cap3 [1,4,0,1,0,5,65,4,0,0,253,232]∧Box w11 gc (cS_cursor_Reader (rdB [1,4,0,1,0,5,65,4,0,0,253,232]) ao3 cap3)∧RSl rS_api_Family 40 w11 ([gc]++M) a1 c1 []∧Box w11 gx (cS_message_opening (opX 65000 90 idX []) a1 c1 none 0)∧a1=none∧c1=0)∨(kk=1∧∃ (ao3:Option Addr) (cap3:Nat) (a1:Option Addr) (c1:Nat),RSl (rInt .u8) 5 w11 ([gc]++M) ao3 cap3 [65,4,0,0,253,232]∧Box w11 gc (cS_cursor_Reader (rdB [65,4,0,0,253,232]) ao3 cap3)∧RSl rS_api_Family 40 w11 ([gc]++M) a1 c1 [⟨4,5⟩]∧Box w11 gx (cS_message_opening (opX 65000 90 idX [⟨4,5⟩]) a1 c1 none 0))∨(kk=0∧∃ (ao3:Option Addr) (cap3:Nat) (a1:Option Addr) (c1:Nat),RSl (rInt .u8) 5 w11 ([gc]++M) ao3 cap3 []∧Box w11 gc (cS_cursor_Reader (rdB []) ao3 cap3)∧RSl rS_api_Family 40 w11 ([gc]++M) a1 c1 [⟨4,5⟩]∧Box w11 gx (cS_message_opening (opX 65000 90 idX [⟨4,5⟩]) a1 c1 none 0)))) 2 ?_ ?_
  · exact ⟨ha,Chg.refl _ _,hM10,.inl ⟨rfl,ao4,cap4,none,0,f4,hBc,RSl.nil (Nat.zero_le _),hX,rfl,rfl⟩⟩
  clear ha hX hBc f4
  rintro kk a w11 ⟨ha,c11,hM11,hst⟩
  have hR:=hR.chg c11 (by simp [Ne.symm hne,hrc])
  have f5:=f5.chg c11 (fun y hy=>.inl (by simp at hy;rcases hy with h | h<;>simp [h,hgx])) (Ok.refl _ _)
  refine wp_seq_k fun KA hKA=>?_
  refine wp_seq_k fun KB hKB=>?_
  refine wp_region_lit ?_
  refine sf ha 2 [(30,.bool true),(5,.bool true),(4,pt gc 0),(0,pt gx 0),(1,pt gr 0)] fun a ha=>?_
  refine sgf ha 3 [2,2,2] [(33,pt gc 0),(30,.bool true),(5,.bool true),(4,pt gc 0),(0,pt gx 0),(1,pt gr 0)] fun a ha=>?_
  rcases hst with ⟨rfl,ao6,cap6,a1,c1,f6,hBc,fF,hX,rfl,rfl⟩ | ⟨rfl,ao6,cap6,a1,c1,f6,hBc,fF,hX⟩ | ⟨rfl,ao6,cap6,a1,c1,f6,hBc,fF,hX⟩
  · have hL:cursor_rest_Left.f (rdB [1,4,0,1,0,5,65,4,0,0,253,232]).rest=some 12:=rfl
    have hN2:cursor_Reader_Num.f 10 (rdB [1,4,0,1,0,5,65,4,0,0,253,232]) 1=some (1,rdB [4,0,1,0,5,65,4,0,0,253,232]):=by kernel_rfl
    have hN3:cursor_Reader_Num.f 10 (rdB [4,0,1,0,5,65,4,0,0,253,232]) 1=some (4,rdB [0,1,0,5,65,4,0,0,253,232]):=by kernel_rfl
    have hS1:cursor_Reader_Sub.f (rdB [0,1,0,5,65,4,0,0,253,232]) 4=some (rdB [0,1,0,5],rdB [65,4,0,0,253,232]):=by kernel_rfl
    refine cL ha (cursor_rest_Left.walk w11 _ hM11 gc _ ao6 cap6 f6 hBc (by simp) 12 hL) ?_
    rintro _ w12 ⟨rfl,c12,hM12⟩ a ha
    have hX:=hX.chg c12 (fun h=>nomatch h)
    have hBc:=hBc.c0 c12
    have f6:=f6.chg c12 (Ok.nil _ _) (Ok.refl _ _)
    have fF:=fF.chg c12 (Ok.nil _ _) (Ok.refl _ _)
    refine sgf ha 2 [2,3] [(36,.bool true),(4,pt gc 0),(0,pt gx 0),(1,pt gr 0)] fun a ha=>?_
    refine hKB _ _ ?_;clear hKB KB
    refine cnd ha rfl (fun _=>?_) (fun h=>nomatch h)
    refine wp_skip ?_
    refine hKA _ _ ?_;clear hKA KA
    refine wp_block ?_
    refine wp_seq_k fun KB hKB=>?_
    refine wp_region_lit ?_
    refine sf ha 1 [(37,pt gc 0),(4,pt gc 0),(0,pt gx 0),(1,pt gr 0)] fun a ha=>?_
    refine cL ha (cursor_Reader_Num.walk w12 _ hM12 gc _ ao6 cap6 f6 hBc (by simp) 1 10 _ hN2) ?_
    rintro _ w13 ⟨ao7,cap7,rfl,f7,hBc,c13,hM13⟩ a ha
    have hX:=hX.chg c13 (by simp [hxc])
    have fF:=fF.chg c13 (Ok.one (.inl (by simp))) (Ok.refl _ _)
    refine sf ha 1 [(6,.int .i64 1),(4,pt gc 0),(0,pt gx 0),(1,pt gr 0)] fun a ha=>?_
    refine hKB _ _ ?_;clear hKB KB
    refine wp_seq_k fun KB hKB=>?_
    refine wp_region_lit ?_
    refine sf ha 2 [(39,pt gc 0),(40,pt gc 0),(6,.int .i64 1),(4,pt gc 0),(0,pt gx 0),(1,pt gr 0)] fun a ha=>?_
    refine cL ha (cursor_Reader_Num.walk w13 _ hM13 gc _ ao7 cap7 f7 hBc (by simp) 1 10 _ hN3) ?_
    rintro _ w14 ⟨ao8,cap8,rfl,f8,hBc,c14,hM14⟩ a ha
    have hX:=hX.chg c14 (by simp [hxc])
    have fF:=fF.chg c14 (Ok.one (.inl (by simp))) (Ok.refl _ _)
    refine cL ha (cursor_Reader_Sub.walk w14 _ hM14 gc _ ao8 cap8 f8 hBc (by simp) 4 _ hS1) ?_
    rintro _ w15 ⟨gv,ao9,cap9,ao10,cap10,rfl,f9,hBv,f10,hBc,hgev,c15,hM15⟩ a ha
    have hX:=hX.chg c15 (by simp [hxc])
    have y1:=hgev gv (by simp)
    have y2:=hM14 gx (by simp [hgx])
    have y3:=hM14 gc (by simp)
    have hxv:gx≠gv:=by omega
    have hcv:gc≠gv:=by omega
    have oV:Ok ([gv]++([gc]++M)) ([gc]++M) w14.heap.size:=fun y hy=>(List.mem_append.1 hy).elim (fun h=>.inr (by simp at h;omega)) .inl
    have fF:=fF.chg c15 (Ok.one (.inl (by simp))) oV
    have C15:Chg [gx,gc] w10 w15:=(((c11.trans c12 (Ok.nil _ _)).trans c13 (Ok.one (.inl (by simp)))).trans c14 (Ok.one (.inl (by simp)))).trans c15 (Ok.one (.inl (by simp)))
    refine sf ha 1 [(7,pt gv 0),(6,.int .i64 1),(4,pt gc 0),(0,pt gx 0),(1,pt gr 0)] fun a ha=>?_
    refine hKB _ _ ?_;clear hKB KB
    refine wp_region_lit ?_
    refine sf ha 3 [(45,pt gc 0),(7,pt gv 0),(6,.int .i64 1),(4,pt gc 0),(0,pt gx 0),(1,pt gr 0)] fun a ha=>?_
    refine cL ha (cursor_rest_Bad.walk w15 _ hM15 gc _ ao10 cap10 f10 hBc (by simp) false rfl) ?_
    rintro _ w16 ⟨rfl,c16,hM16⟩ a ha
    have hX:=hX.chg c16 (fun h=>nomatch h)
    have hBc:=hBc.c0 c16
    have hBv:=hBv.c0 c16
    have f9:=f9.chg c16 (Ok.nil _ _) (Ok.refl _ _)
    have f10:=f10.chg c16 (Ok.nil _ _) (Ok.refl _ _)
    have fF:=fF.chg c16 (Ok.nil _ _) (Ok.refl _ _)
    refine sf ha 2 [(48,.bool true),(7,pt gv 0),(6,.int .i64 1),(4,pt gc 0),(0,pt gx 0),(1,pt gr 0)] fun a ha=>?_
    refine sgf ha 3 [2,2,2] [(49,pt gx 0),(50,.int .i64 1),(51,pt gv 0),(48,.bool true),(4,pt gc 0),(0,pt gx 0),(1,pt gr 0)] fun a ha=>?_
    refine cL ha (cap1_walk w16 _ hM16 gx gv hxv (by simp [hgx]) (by simp) 65000 90 idX hX ao9 cap9 f9 hBv) ?_
    rintro _ w17 ⟨rfl,a2,c2,fF,hX,c17,hM17⟩ a ha
    have hBc:=hBc.chg c17 (by simp [Ne.symm hxc,hcv])
    have f10:=f10.chg c17 (fun y hy=>.inl (by simp at hy;rcases hy with h | h<;>simp [h,hgx])) (Ok.refl _ _)
    have oB:Ok ([gc]++M) ([gv]++([gc]++M)) w17.heap.size:=fun _ h=>.inl (mr h)
    have zz:=Chg.refl [] w17
    have C17:Chg [gx,gc] w10 w17:=(C15.trans c16 (Ok.nil _ _)).trans c17 (fun y hy=>by
      simp at hy
      rcases hy with rfl | rfl
      · exact .inl (by simp)
      · refine .inr ?_
        have:=c11.size;have:=c12.size;have:=c13.size;have:=c14.size
        omega)
    refine sgf ha 2 [3,0] [(5,.bool true),(4,pt gc 0),(0,pt gx 0),(1,pt gr 0)] fun a ha=>?_
    exact ⟨1,by omega,ha,C17,fun y hy=>hM17 y (mr hy),.inr (.inl ⟨rfl,ao10,cap10,a2,c2,f10.chg zz (Ok.nil _ _) oB,hBc,fF.chg zz (Ok.nil _ _) oB,hX⟩)⟩
  · have hL:cursor_rest_Left.f (rdB [65,4,0,0,253,232]).rest=some 6:=rfl
    have hN2:cursor_Reader_Num.f 10 (rdB [65,4,0,0,253,232]) 1=some (65,rdB [4,0,0,253,232]):=by kernel_rfl
    have hN3:cursor_Reader_Num.f 10 (rdB [4,0,0,253,232]) 1=some (4,rdB [0,0,253,232]):=by kernel_rfl
    have hS1:cursor_Reader_Sub.f (rdB [0,0,253,232]) 4=some (rdB [0,0,253,232],rdB []):=by kernel_rfl
    refine cL ha (cursor_rest_Left.walk w11 _ hM11 gc _ ao6 cap6 f6 hBc (by simp) 6 hL) ?_
    rintro _ w12 ⟨rfl,c12,hM12⟩ a ha
    have hX:=hX.chg c12 (fun h=>nomatch h)
    have hBc:=hBc.c0 c12
    have f6:=f6.chg c12 (Ok.nil _ _) (Ok.refl _ _)
    have fF:=fF.chg c12 (Ok.nil _ _) (Ok.refl _ _)
    refine sgf ha 2 [2,3] [(36,.bool true),(4,pt gc 0),(0,pt gx 0),(1,pt gr 0)] fun a ha=>?_
    refine hKB _ _ ?_;clear hKB KB
    refine cnd ha rfl (fun _=>?_) (fun h=>nomatch h)
    refine wp_skip ?_
    refine hKA _ _ ?_;clear hKA KA
    refine wp_block ?_
    refine wp_seq_k fun KB hKB=>?_
    refine wp_region_lit ?_
    refine sf ha 1 [(37,pt gc 0),(4,pt gc 0),(0,pt gx 0),(1,pt gr 0)] fun a ha=>?_
    refine cL ha (cursor_Reader_Num.walk w12 _ hM12 gc _ ao6 cap6 f6 hBc (by simp) 1 10 _ hN2) ?_
    rintro _ w13 ⟨ao7,cap7,rfl,f7,hBc,c13,hM13⟩ a ha
    have hX:=hX.chg c13 (by simp [hxc])
    have fF:=fF.chg c13 (Ok.one (.inl (by simp))) (Ok.refl _ _)
    refine sf ha 1 [(6,.int .i64 65),(4,pt gc 0),(0,pt gx 0),(1,pt gr 0)] fun a ha=>?_
    refine hKB _ _ ?_;clear hKB KB
    refine wp_seq_k fun KB hKB=>?_
    refine wp_region_lit ?_
    refine sf ha 2 [(39,pt gc 0),(40,pt gc 0),(6,.int .i64 65),(4,pt gc 0),(0,pt gx 0),(1,pt gr 0)] fun a ha=>?_
    refine cL ha (cursor_Reader_Num.walk w13 _ hM13 gc _ ao7 cap7 f7 hBc (by simp) 1 10 _ hN3) ?_
    rintro _ w14 ⟨ao8,cap8,rfl,f8,hBc,c14,hM14⟩ a ha
    have hX:=hX.chg c14 (by simp [hxc])
    have fF:=fF.chg c14 (Ok.one (.inl (by simp))) (Ok.refl _ _)
    refine cL ha (cursor_Reader_Sub.walk w14 _ hM14 gc _ ao8 cap8 f8 hBc (by simp) 4 _ hS1) ?_
    rintro _ w15 ⟨gv,ao9,cap9,ao10,cap10,rfl,f9,hBv,f10,hBc,hgev,c15,hM15⟩ a ha
    have hX:=hX.chg c15 (by simp [hxc])
    have y1:=hgev gv (by simp)
    have y2:=hM14 gx (by simp [hgx])
    have y3:=hM14 gc (by simp)
    have hxv:gx≠gv:=by omega
    have hcv:gc≠gv:=by omega
    have oV:Ok ([gv]++([gc]++M)) ([gc]++M) w14.heap.size:=fun y hy=>(List.mem_append.1 hy).elim (fun h=>.inr (by simp at h;omega)) .inl
    have fF:=fF.chg c15 (Ok.one (.inl (by simp))) oV
    have C15:Chg [gx,gc] w10 w15:=(((c11.trans c12 (Ok.nil _ _)).trans c13 (Ok.one (.inl (by simp)))).trans c14 (Ok.one (.inl (by simp)))).trans c15 (Ok.one (.inl (by simp)))
    refine sf ha 1 [(7,pt gv 0),(6,.int .i64 65),(4,pt gc 0),(0,pt gx 0),(1,pt gr 0)] fun a ha=>?_
    refine hKB _ _ ?_;clear hKB KB
    refine wp_region_lit ?_
    refine sf ha 3 [(45,pt gc 0),(7,pt gv 0),(6,.int .i64 65),(4,pt gc 0),(0,pt gx 0),(1,pt gr 0)] fun a ha=>?_
    refine cL ha (cursor_rest_Bad.walk w15 _ hM15 gc _ ao10 cap10 f10 hBc (by simp) false rfl) ?_
    rintro _ w16 ⟨rfl,c16,hM16⟩ a ha
    have hX:=hX.chg c16 (fun h=>nomatch h)
    have hBc:=hBc.c0 c16
    have hBv:=hBv.c0 c16
    have f9:=f9.chg c16 (Ok.nil _ _) (Ok.refl _ _)
    have f10:=f10.chg c16 (Ok.nil _ _) (Ok.refl _ _)
    have fF:=fF.chg c16 (Ok.nil _ _) (Ok.refl _ _)
    refine sf ha 2 [(48,.bool true),(7,pt gv 0),(6,.int .i64 65),(4,pt gc 0),(0,pt gx 0),(1,pt gr 0)] fun a ha=>?_
    refine sgf ha 3 [2,2,2] [(49,pt gx 0),(50,.int .i64 65),(51,pt gv 0),(48,.bool true),(4,pt gc 0),(0,pt gx 0),(1,pt gr 0)] fun a ha=>?_
    refine cL ha (cap65_walk w16 _ hM16 gx gv hxv (by simp [hgx]) (by simp) 65000 90 idX a1 c1 fF hX ao9 cap9 f9 hBv) ?_
    rintro _ w17 ⟨rfl,fF,hX,c17,hM17⟩ a ha
    have hBc:=hBc.chg c17 (by simp [Ne.symm hxc,hcv])
    have f10:=f10.chg c17 (fun y hy=>.inl (by simp at hy;rcases hy with h | h<;>simp [h,hgx])) (Ok.refl _ _)
    have oB:Ok ([gc]++M) ([gv]++([gc]++M)) w17.heap.size:=fun _ h=>.inl (mr h)
    have zz:=Chg.refl [] w17
    have C17:Chg [gx,gc] w10 w17:=(C15.trans c16 (Ok.nil _ _)).trans c17 (fun y hy=>by
      simp at hy
      rcases hy with rfl | rfl
      · exact .inl (by simp)
      · refine .inr ?_
        have:=c11.size;have:=c12.size;have:=c13.size;have:=c14.size
        omega)
    refine sgf ha 2 [3,0] [(5,.bool true),(4,pt gc 0),(0,pt gx 0),(1,pt gr 0)] fun a ha=>?_
    exact ⟨0,by omega,ha,C17,fun y hy=>hM17 y (mr hy),.inr (.inr ⟨rfl,ao10,cap10,a1,c1,f10.chg zz (Ok.nil _ _) oB,hBc,fF.chg zz (Ok.nil _ _) oB,hX⟩)⟩
  · refine cL ha (cursor_rest_Left.walk w11 _ hM11 gc _ ao6 cap6 f6 hBc (by simp) 0 rfl) ?_
    rintro _ w12 ⟨rfl,c12,hM12⟩ a ha
    have hX:=hX.chg c12 (fun h=>nomatch h)
    have hR:=hR.chg c12 (fun h=>nomatch h)
    have f5:=f5.chg c12 (Ok.nil _ _) (Ok.refl _ _)
    have fF:=fF.chg c12 (Ok.nil _ _) (Ok.refl _ _)
    refine sgf ha 2 [2,3] [(36,.bool false),(5,.bool true),(4,pt gc 0),(0,pt gx 0),(1,pt gr 0)] fun a ha=>?_
    refine hKB _ _ ?_;clear hKB KB
    refine cnd ha rfl (fun h=>nomatch h) (fun _=>?_)
    refine wx ?_
    refine hKD _ _ ?_
    refine wp_seq_k fun KB hKB=>?_
    refine wp_region_lit ?_
    refine sf ha 2 [(55,.bool false),(0,pt gx 0),(1,pt gr 0)] fun a ha=>?_
    refine hKB _ _ ?_;clear hKB KB
    refine cnd ha rfl (fun h=>nomatch h) (fun _=>?_)
    refine wp_skip ?_
    have oM:Ok M ([gc]++M) w12.heap.size:=fun _ h=>.inl (mr h)
    have zz:=Chg.refl [] w12
    have z9:=c9.size
    refine ⟨0,by omega,.inr ⟨rfl,ha.sel (by kernel_rfl),⟨ao5,cap5,f5.chg zz (Ok.nil _ _) oM,hR⟩,a1,c1,fF.chg zz (Ok.nil _ _) oM,hX,?_,fun y hy=>hM12 y (mr hy)⟩⟩
    exact (hC10.trans c11 (fun y hy=>by
      simp at hy
      rcases hy with rfl | rfl
      · exact .inl (by simp)
      · exact .inr (by omega))).trans c12 (Ok.nil _ _)
theorem Box.len {w:World} {g:Nat} {a b:List Value} (h:Box w g a) (k:Box w g b):a.length=b.length:=by
  obtain ⟨T,h⟩:=h
  obtain ⟨U,k⟩:=k
  rw [h] at k
  have e:=Option.some.inj k
  injection e with e1
  have:=congrArg Array.size e1
  simpa using this
def message_opening_parameters.f (a0:S_message_opening) (a1:S_cursor_Reader):Option (S_message_opening×S_cursor_Reader):=if a0=opX 65000 90 idX []∧a1=rdB [2,12,1,4,0,1,0,5,65,4,0,0,253,232] then some (opX 65000 90 idX [⟨4,5⟩],rdB []) else none
theorem message_opening_parameters.walk (w:World) (M:List Nat) (hM:MS M w) (gp0:Nat) (a0:S_message_opening) (ao1:Option Addr) (cap1:Nat) (f1:RSl rS_api_Family 40 w M ao1 cap1 a0.open_.Families) (ao2:Option Addr) (cap2:Nat) (f2:RSl (rInt .u8) 5 w M ao2 cap2 a0.note.Data) (hBgp0:Box w gp0 (cS_message_opening a0 ao1 cap1 ao2 cap2)) (hg_gp0:gp0∈M) (gp1:Nat) (a1:S_cursor_Reader) (ao3:Option Addr) (cap3:Nat) (f3:RSl (rInt .u8) 5 w M ao3 cap3 a1.rest.left) (hBgp1:Box w gp1 (cS_cursor_Reader a1 ao3 cap3)) (hg_gp1:gp1∈M) (r:S_message_opening×S_cursor_Reader) (H:message_opening_parameters.f a0 a1=some r) (hz:ao1=none∧cap1=0∧ao2=none∧cap2=0:=by exact ⟨rfl,rfl,rfl,rfl⟩) :
    To Tryz.prog 47 [.pointer (some ⟨gp0,0,none⟩),.pointer (some ⟨gp1,0,none⟩)] w fun v w'=>∃ (ao45:Option Addr) (cap45:Nat) (ao46:Option Addr) (cap46:Nat) (ao47:Option Addr) (cap47:Nat),v=.tuple #[]∧(RSl rS_api_Family 40 w' (M) ao45 cap45 r.1.open_.Families)∧(RSl (rInt .u8) 5 w' (M) ao46 cap46 r.1.note.Data)∧(Box w' gp0 (cS_message_opening r.1 ao45 cap45 ao46 cap46))∧(RSl (rInt .u8) 5 w' (M) ao47 cap47 r.2.rest.left)∧(Box w' gp1 (cS_cursor_Reader r.2 ao47 cap47))∧Chg [gp0,gp1] w w'∧MS (M) w':=by
  obtain ⟨rfl,rfl,rfl,rfl⟩:=hz;have hne:gp0≠gp1:=by
    rintro rfl;have:=hBgp0.len hBgp1;simp [cS_message_opening,cS_cursor_Reader,cS_api_Open,cS_api_Note,cS_api_Addr,cS_cursor_rest,cA] at this
  unfold message_opening_parameters.f at H;split at H
  · rename_i h;obtain ⟨rfl,rfl⟩:=h;obtain rfl:=oj H;refine (parameters_walk w M hM gp0 gp1 hne hg_gp0 hg_gp1 hBgp0 ao3 cap3 f3 hBgp1).mono ?_;rintro v w' ⟨hv,⟨ao4,cap4,f4,hB4⟩,a1,c1,fF,hX,hC,hM'⟩;exact ⟨a1,c1,none,0,ao4,cap4,hv,fF,RSl.nil (Nat.zero_le _),hX,f4,hB4,hC,hM'⟩
  · exact nomatch H

def message_readOpen.f (k:Nat) (a0:List Int):Option (S_api_Open):=(cursor_Open.f a0).bind fun t9=>(cursor_Reader_Num.f k t9 (1:Int)).bind fun t14=>(cursor_Reader_Num.f k t14.2 (2:Int)).bind fun t17=>(cursor_Reader_Num.f k t17.2 (2:Int)).bind fun t22=>(cursor_Reader_Take.f t22.2 (4:Int)).bind fun t27=>(addr_Of.f t27.1).bind fun t30=>(cursor_Reader_Num.f k t27.2 (1:Int)).bind fun t34=>(cursor_Reader_Sub.f t34.2 t34.1).bind fun t36=>((cursor_rest_Bad.f t36.2.rest).bind fun t84=>(if t84=true then some (true:Bool) else (cursor_rest_Left.f t36.2.rest).bind fun t86=>some (decide (t86 > (0:Int)):Bool))).bind fun s43=>(if s43=true then (message_opening_check.f k (⟨(⟨t17.1,t22.1,t30.1,([]:List S_api_Family),false⟩:S_api_Open),(⟨(2:Int),(0:Int),([]:List Int)⟩:S_api_Note)⟩:S_message_opening)).bind fun t49=>(if (t49.note.Code != (0:Int))=true then none else some ((t49.open_:S_api_Open))) else (if (t14.1 != (4:Int))=true then (message_opening_check.f k (⟨(⟨t17.1,t22.1,t30.1,([]:List S_api_Family),false⟩:S_api_Open),(⟨(2:Int),(1:Int),([(0:Int),(4:Int)]:List Int)⟩:S_api_Note)⟩:S_message_opening)).bind fun t66=>(if (t66.note.Code != (0:Int))=true then none else some ((t66.open_:S_api_Open))) else (message_opening_parameters.f (⟨(⟨t17.1,t22.1,t30.1,([]:List S_api_Family),false⟩:S_api_Open),(⟨(0:Int),(0:Int),([]:List Int)⟩:S_api_Note)⟩:S_message_opening) t36.1).bind fun t72=>(message_opening_check.f k t72.1).bind fun t78=>(if (t78.note.Code != (0:Int))=true then none else some ((t78.open_:S_api_Open)))))
set_option maxRecDepth 100000 in
theorem message_readOpen.walk (w:World) (M:List Nat) (hM:MS M w) (a0:List Int) (ao1:Option Addr) (cap1:Nat) (f1:RSl (rInt .u8) 5 w M ao1 cap1 a0) (k:Nat) (r:S_api_Open) (H:message_readOpen.f k a0=some r) :
    To Tryz.prog 26 [.slice ao1 a0.length cap1] w fun v w'=>∃ (ao87:Option Addr) (cap87:Nat),v=.iface 43 (.agg (cS_api_Open r ao87 cap87).toArray)∧(RSl rS_api_Family 40 w' (M) ao87 cap87 r.Families)∧Chg [] w w'∧MS (M) w':=by
 unfold message_readOpen.f at H;refine ent Tryz.func26 rfl [(0,.slice ao1 a0.length cap1)] rfl (by rfl) fun a ha=>?_;have hC:Chg [] w w:=Chg.refl _ _;refine sqd ha 1 [] [] fun a ha=>?_;refine wsr fun K3 hK3=>?_;refine oP (.agg (cS_message_opening (⟨(⟨(0:Int),(0:Int),(⟨(0:Int),(List.replicate 16 (0:Int))⟩:S_api_Addr),([]:List S_api_Family),false⟩:S_api_Open),(⟨(0:Int),(0:Int),([]:List Int)⟩:S_api_Note)⟩:S_message_opening) none 0 none 0).toArray) ha fun a ha=>?_;refine bx (cs:=(cS_message_opening (⟨(⟨(0:Int),(0:Int),(⟨(0:Int),(List.replicate 16 (0:Int))⟩:S_api_Addr),([]:List S_api_Family),false⟩:S_api_Open),(⟨(0:Int),(0:Int),([]:List Int)⟩:S_api_Note)⟩:S_message_opening) none 0 none 0)) ha rfl rfl rfl rfl rfl fun a w4 g5 hN6 ha=>?_;have o1:=oN M w;have o2:=oA hN6 M;have f1:=f1.chg hN6.chg o1 o2;have e_i7:=eN hC (hN6.ge1);have hM:=MS.app hN6.ms (hM.chg hN6.chg);have hC:=hC.t0 hN6.chg;have hBg5:=hN6.box;refine sd ha 1 [] [(3,pt g5 0)] fun a ha=>?_;refine hK3 _ _ ?_;refine wsr fun K8 hK8=>?_;refine sd ha 1 [0] [(9,.slice ao1 a0.length cap1)] fun a ha=>?_;obtain ⟨t9,H9,H⟩:=bind_some H;refine cL ha (cursor_Open.walk w4 _ hM a0 ao1 cap1 f1 _ H9) ?_;rintro _ w9 ⟨g10,ao12,cap12,rfl,f12,hBg10,ne_i11,hc9,hMn⟩ a ha;have hBg5:=hBg5.c0 hc9;have p_i11_i7:=pn (B:=[g5]) hM ne_i11 fun _ hy=>ml hy;have e_i11:=eN hC ne_i11;have hM:MS ([g10]++([g5]++(M))) w9:=(MS.app (fun x h=>hMn x (ml h)) (hM.chg hc9))
 have hC:=hC.t0 hc9;refine sd ha 1 [9] [(4,pt g10 0)] fun a ha=>?_;refine hK8 _ _ ?_;refine wsr fun K13 hK13=>?_;refine sd ha 1 [] [(11,pt g10 0)] fun a ha=>?_;obtain ⟨t14,H14,H⟩:=bind_some H;refine cL ha (cursor_Reader_Num.walk w9 _ hM g10 t9 ao12 cap12 f12 hBg10 (ml (List.mem_singleton.2 rfl)) (1:Int) k _ H14) ?_;rintro _ w14 ⟨ao15,cap15,rfl,f15,qhBg10,hc14,hMn⟩ a ha;have hBg5:=hBg5.chg hc14 ((fun x (hx:x∈[g5]) (hy:x∈[g10])=>p_i11_i7 x hy hx) g5 (by simp));have hM:=hM.chg hc14;have hC:=hC.t1 hc14 e_i11;have hBg10:=qhBg10;refine sd ha 1 [11] [(5,.int .i64 t14.1)] fun a ha=>?_;refine hK13 _ _ ?_;refine wsr fun K16 hK16=>?_;refine sd ha 2 [] [(13,pt g5 0),(14,pt g10 0)] fun a ha=>?_;obtain ⟨t17,H17,H⟩:=bind_some H;refine cL ha (cursor_Reader_Num.walk w14 _ hM g10 t14.2 ao15 cap15 f15 hBg10 (ml (List.mem_singleton.2 rfl)) (2:Int) k _ H17) ?_;rintro _ w17 ⟨ao18,cap18,rfl,f18,qhBg10,hc17,hMn⟩ a ha;have hBg5:=hBg5.chg hc17 ((fun x (hx:x∈[g5]) (hy:x∈[g10])=>p_i11_i7 x hy hx) g5 (by simp));have hM:=hM.chg hc17;have hC:=hC.t1 hc17 e_i11;have hBg10:=qhBg10;refine sd ha 3 [13,14] [(15,.int .i64 t17.1),(18,pt g5 0)] fun a ha=>?_;refine st ha rfl rfl rfl (by kernel_rfl) rfl rfl hBg5 (Nat.le_of_ble_eq_true (by kernel_rfl)) fun a w19 ha hb2 hc20 _=>?_;have o1:Ok [g5] ([g10]++([g5]++(M))) w17.heap.size:=(fun _ h=>.inl (mr (ml h)))
 have o2:=oR ([g10]++([g5]++(M))) w17;have f18:=f18.chg hc20 o1 o2;have hBg10:=hBg10.chg hc20 (p_i11_i7 g10 (by simp));have hM:=hM.chg hc20;have hC:=hC.t1 hc20 e_i7;have hBg5:Box w19 g5 (cS_message_opening (⟨(⟨t17.1,(0:Int),(⟨(0:Int),(List.replicate 16 (0:Int))⟩:S_api_Addr),([]:List S_api_Family),false⟩:S_api_Open),(⟨(0:Int),(0:Int),([]:List Int)⟩:S_api_Note)⟩:S_message_opening) none 0 none 0):=hb2;refine hK16 _ _ ?_;refine wsr fun K21 hK21=>?_;refine sd ha 2 [15,18] [(19,pt g5 0),(20,pt g10 0)] fun a ha=>?_;obtain ⟨t22,H22,H⟩:=bind_some H;refine cL ha (cursor_Reader_Num.walk w19 _ hM g10 t17.2 ao18 cap18 f18 hBg10 (ml (List.mem_singleton.2 rfl)) (2:Int) k _ H22) ?_;rintro _ w22 ⟨ao23,cap23,rfl,f23,qhBg10,hc22,hMn⟩ a ha;have hBg5:=hBg5.chg hc22 ((fun x (hx:x∈[g5]) (hy:x∈[g10])=>p_i11_i7 x hy hx) g5 (by simp));have hM:=hM.chg hc22;have hC:=hC.t1 hc22 e_i11;have hBg10:=qhBg10;refine sd ha 3 [19,20] [(21,.int .i64 t22.1),(24,pt g5 1)] fun a ha=>?_;refine st ha rfl rfl rfl (by kernel_rfl) rfl rfl hBg5 (Nat.le_of_ble_eq_true (by kernel_rfl)) fun a w24 ha hb2 hc25 _=>?_;have o1:Ok [g5] ([g10]++([g5]++(M))) w22.heap.size:=(fun _ h=>.inl (mr (ml h)))
 have o2:=oR ([g10]++([g5]++(M))) w22;have f23:=f23.chg hc25 o1 o2;have hBg10:=hBg10.chg hc25 (p_i11_i7 g10 (by simp));have hM:=hM.chg hc25;have hC:=hC.t1 hc25 e_i7;have hBg5:Box w24 g5 (cS_message_opening (⟨(⟨t17.1,t22.1,(⟨(0:Int),(List.replicate 16 (0:Int))⟩:S_api_Addr),([]:List S_api_Family),false⟩:S_api_Open),(⟨(0:Int),(0:Int),([]:List Int)⟩:S_api_Note)⟩:S_message_opening) none 0 none 0):=hb2;refine hK21 _ _ ?_;refine wsr fun K26 hK26=>?_;refine sd ha 2 [21,24] [(26,pt g5 0),(27,pt g10 0)] fun a ha=>?_;obtain ⟨t27,H27,H⟩:=bind_some H;refine cL ha (cursor_Reader_Take.walk w24 _ hM g10 t22.2 ao23 cap23 f23 hBg10 (ml (List.mem_singleton.2 rfl)) (4:Int) _ H27) ?_;rintro _ w27 ⟨ao28,cap28,ao29,cap29,rfl,f28,f29,qhBg10,ne_i28,hc27,hMn⟩ a ha;have hBg5:=hBg5.chg hc27 ((fun x (hx:x∈[g5]) (hy:x∈[g10])=>p_i11_i7 x hy hx) g5 (by simp));have p_i28_i11:=pn (B:=[g10]) hM ne_i28 fun _ hy=>ml hy;have p_i28_i7:=pn (B:=[g5]) hM ne_i28 fun _ hy=>mr (ml hy);have p_i28_M:=pn (B:=M) hM ne_i28 fun _ hy=>mr (mr (hy));have hM:MS (blkL ao28++([g10]++([g5]++(M)))) w27:=(MS.app (fun x h=>hMn x (ml h)) (hM.chg hc27))
 have hC:=hC.t1 hc27 e_i11;have hBg10:=qhBg10;have hML:MS ([g10]++([g5]++(M))) w27:=MS.rest hM (fun _ h=>(List.mem_append.1 h).elim (fun h=>mr (ml h)) (fun h=>(List.mem_append.1 h).elim (fun h=>mr (mr (ml h))) (fun h=>mr (mr (mr (h))))));have oL:Ok ([g10]++([g5]++(M))) (blkL ao28++([g10]++([g5]++(M)))) w27.heap.size:=(fun _ h=>.inl (mr (h)))
 obtain ⟨t30,H30,H⟩:=bind_some H;refine cL ha (addr_Of.walk w27 _ hML t27.1 ao28 cap28 (Own.toRSl (M':=[g10]++([g5]++(M))) f28 oL (fun x hx hm=>(List.mem_append.1 hm).elim (fun h=>p_i28_i11 x hx h) (fun h=>(List.mem_append.1 h).elim (fun h=>p_i28_i7 x hx h) (fun h=>p_i28_M x hx h)))) _ H30) ?_;rintro _ w30 ⟨rfl,hc30,hMn⟩ a ha;have o1:=oN (blkL ao28++([g10]++([g5]++(M)))) w27;have o2:=oR (blkL ao28++([g10]++([g5]++(M)))) w27;have f29:=f29.chg hc30 o1 o2;have hBg5:=hBg5.c0 hc30;have hBg10:=hBg10.c0 hc30;have hM:=hM.chg hc30;have hC:=hC.t0 hc30;refine sd ha 6 [26,27] [(30,.agg (cS_api_Addr t30.1).toArray),(34,pt g5 2)] fun a ha=>?_;refine stA (l:=(cS_api_Addr t30.1)) ha rfl rfl rfl (by kernel_rfl) rfl rfl hBg5 rfl fun a w31 ha hb2 hc32 _=>?_;have o1:Ok [g5] (blkL ao28++([g10]++([g5]++(M)))) w30.heap.size:=(fun _ h=>.inl (mr (mr (ml h))))
 have o2:=oR (blkL ao28++([g10]++([g5]++(M)))) w30;have f29:=f29.chg hc32 o1 o2;have hBg10:=hBg10.chg hc32 (p_i11_i7 g10 (by simp));have hM:=hM.chg hc32;have hC:=hC.t1 hc32 e_i7;have hBg5:Box w31 g5 (cS_message_opening (⟨(⟨t17.1,t22.1,t30.1,([]:List S_api_Family),false⟩:S_api_Open),(⟨(0:Int),(0:Int),([]:List Int)⟩:S_api_Note)⟩:S_message_opening) none 0 none 0):=hb2;refine hK26 _ _ ?_;refine wsr fun K33 hK33=>?_;refine sd ha 2 [30,34] [(35,pt g10 0),(36,pt g10 0)] fun a ha=>?_;obtain ⟨t34,H34,H⟩:=bind_some H;refine cL ha (cursor_Reader_Num.walk w31 _ hM g10 t27.2 ao29 cap29 f29 hBg10 (mr (ml (List.mem_singleton.2 rfl))) (1:Int) k _ H34) ?_;rintro _ w34 ⟨ao35,cap35,rfl,f35,qhBg10,hc34,hMn⟩ a ha;have hBg5:=hBg5.chg hc34 ((fun x (hx:x∈[g5]) (hy:x∈[g10])=>p_i11_i7 x hy hx) g5 (by simp));have hM:=hM.chg hc34;have hC:=hC.t1 hc34 e_i11;have hBg10:=qhBg10;obtain ⟨t36,H36,H⟩:=bind_some H;refine cL ha (cursor_Reader_Sub.walk w34 _ hM g10 t34.2 ao35 cap35 f35 hBg10 (mr (ml (List.mem_singleton.2 rfl))) t34.1 _ H36) ?_;rintro _ w36 ⟨g37,ao39,cap39,ao40,cap40,rfl,f39,hBg37,f40,qhBg10,ne_i38,hc36,hMn⟩ a ha;have o1:Ok [g10] (blkL ao28++([g10]++([g5]++(M)))) w34.heap.size:=(fun _ h=>.inl (mr (ml h)))
 have o2:Ok ([g37]++(blkL ao28++([g10]++([g5]++(M))))) (blkL ao28++([g10]++([g5]++(M)))) w34.heap.size:=(Ok.app (fun x h=>.inr (ne_i38 x h)) (Ok.refl _ _))
 have hBg5:=hBg5.chg hc36 ((fun x (hx:x∈[g5]) (hy:x∈[g10])=>p_i11_i7 x hy hx) g5 (by simp));have p_i38_i7:=pn (B:=[g5]) hM ne_i38 fun _ hy=>mr (mr (ml hy));have e_i38:=eN hC ne_i38;have hM:MS ([g37]++(blkL ao28++([g10]++([g5]++(M))))) w36:=(MS.app (fun x h=>hMn x (ml h)) (hM.chg hc36))
 have hC:=hC.t1 hc36 e_i11;have hBg10:=qhBg10;refine sd ha 1 [35,36] [(6,pt g37 0)] fun a ha=>?_;refine hK33 _ _ ?_;refine wp_seq_k fun K41 hK41=>?_;refine wp_block ?_;refine wsr fun K42 hK42=>?_;obtain ⟨s43,H43,H⟩:=bind_some H;have J43:∀ (a:Act) (w43:World),Has a Tryz.f26.ntmps [(3,pt g5 0),(5,.int .i64 t14.1),(6,pt g37 0),(42,.bool s43)]→(RSl (rInt .u8) 5 w43 ([g37]++([g10]++([g5]++(M)))) ao40 cap40 t36.2.rest.left)→(RSl (rInt .u8) 5 w43 ([g37]++([g10]++([g5]++(M)))) ao39 cap39 t36.1.rest.left)→(Box w43 g5 (cS_message_opening (⟨(⟨t17.1,t22.1,t30.1,([]:List S_api_Family),false⟩:S_api_Open),(⟨(0:Int),(0:Int),([]:List Int)⟩:S_api_Note)⟩:S_message_opening) none 0 none 0))→(Box w43 g10 (cS_cursor_Reader t36.2 ao40 cap40))→(Box w43 g37 (cS_cursor_Reader t36.1 ao39 cap39))→(Chg [] w w43)→(MS ([g37]++([g10]++([g5]++(M)))) w43)→K42 a w43:=by
  intro a w43 ha f40 f39 hBg5 hBg10 hBg37 hC hM;refine hK42 _ _ ?_;refine cnH H ha (fun hc44 H=>?_) (fun hc44 H=>?_)
  ·refine wp_region_lit ?_;refine sf ha 1 [(3,pt g5 0),(54,pt g5 0)] fun a ha=>?_;refine oP (.agg (cS_api_Note (⟨(2:Int),(0:Int),([]:List Int)⟩:S_api_Note) none 0).toArray) ha fun a ha=>?_;refine sd ha 2 [54] [(55,.agg (cS_api_Note (⟨(2:Int),(0:Int),([]:List Int)⟩:S_api_Note) none 0).toArray),(57,pt g5 21)] fun a ha=>?_;refine stA (l:=(cS_api_Note (⟨(2:Int),(0:Int),([]:List Int)⟩:S_api_Note) none 0)) ha rfl rfl rfl (by kernel_rfl) rfl rfl hBg5 rfl fun a w45 ha hb2 hc46 _=>?_;have o1:Ok [g5] ([g37]++([g10]++([g5]++(M)))) w43.heap.size:=(fun _ h=>.inl (mr (mr (ml h))))
   have o2:=oR ([g37]++([g10]++([g5]++(M)))) w43;have f39:=f39.chg hc46 o1 o2;have hBg37:=hBg37.chg hc46 (p_i38_i7 g37 (by simp));have hM:=hM.chg hc46;have hC:=hC.t1 hc46 e_i7;have hBg5:Box w45 g5 (cS_message_opening (⟨(⟨t17.1,t22.1,t30.1,([]:List S_api_Family),false⟩:S_api_Open),(⟨(2:Int),(0:Int),([]:List Int)⟩:S_api_Note)⟩:S_message_opening) none 0 none 0):=hb2;refine hK41 _ _ ?_;refine wp_seq_k fun K47 hK47=>?_;refine wsr fun K48 hK48=>?_;refine sd ha 1 [55,57] [(66,pt g5 0)] fun a ha=>?_;obtain ⟨t49,H49,H⟩:=bind_some H;refine cL ha (message_opening_check.walk w45 _ hM g5 (⟨(⟨t17.1,t22.1,t30.1,([]:List S_api_Family),false⟩:S_api_Open),(⟨(2:Int),(0:Int),([]:List Int)⟩:S_api_Note)⟩:S_message_opening) none 0 (RSl.nil (Nat.zero_le _)) none 0 (RSl.nil (Nat.zero_le _)) hBg5 (mr (mr (ml (List.mem_singleton.2 rfl)))) k _ H49) ?_;rintro _ w49 ⟨ao50,cap50,ao51,cap51,rfl,f50,f51,qhBg5,hc49,hMn⟩ a ha;have o1:Ok [g5] ([g37]++([g10]++([g5]++(M)))) w45.heap.size:=(fun _ h=>.inl (mr (mr (ml h))))
   have o2:=oR ([g37]++([g10]++([g5]++(M)))) w45;have f39:=f39.chg hc49 o1 o2;have hBg37:=hBg37.chg hc49 (p_i38_i7 g37 (by simp));have hM:=hM.chg hc49;have hC:=hC.t1 hc49 e_i7;have hBg5:=qhBg5;refine hK48 _ _ ?_;refine wsr fun K52 hK52=>?_;refine sd ha 4 [66] [(71,pt g5 21)] fun a ha=>?_;refine ld (v:=.int .i64 t49.note.Code) ha rfl (by kernel_rfl) rfl rfl rfl (hBg5.cell' (o:=21) rfl (by kernel_rfl)) fun a ha=>?_;refine sd ha 1 [71] [(73,.bool (t49.note.Code != (0:Int)))] fun a ha=>?_;refine hK52 _ _ ?_;refine cnH H ha (fun hc53 H=>?_) (fun hc53 H=>?_)
   ·exact nomatch (show none=some _ from H)
   ·refine wp_skip ?_;refine hK47 _ _ ?_;refine wsr fun K54 hK54=>?_;refine sf ha 3 [(81,pt g5 0)] fun a ha=>?_;refine ldA (cs:=(cS_api_Open t49.open_ ao50 cap50)) ha rfl (by kernel_rfl) rfl rfl rfl (cells_sub (Box.cells hBg5) (all:=(cS_message_opening t49 ao50 cap50 ao51 cap51)) [] [.int .i64 t49.note.Code,.int .i64 t49.note.Sub,.slice ao51 t49.note.Data.length cap51] (by kernel_rfl)) fun a ha=>?_;refine oP (.iface 43 (.agg (cS_api_Open t49.open_ ao50 cap50).toArray)) ha fun a ha=>?_;refine sf ha 1 [(2,.iface 43 (.agg (cS_api_Open t49.open_ ao50 cap50).toArray))] fun a ha=>?_;refine hK54 _ _ ?_;refine wrt ?_;have o1:=oN ([g37]++([g10]++([g5]++(M)))) w49;have o2:Ok (M) ([g37]++([g10]++([g5]++(M)))) w49.heap.size:=(fun _ h=>.inl (mr (mr (mr (h)))))
    have f50:=f50.chg (Chg.refl [] _) o1 o2;have hM:MS M w49:=hM.sb fun _ h=>mr (mr (mr (h)));obtain rfl:=oj H;refine rt1 ha rfl rfl ?_;exact ⟨ao50,cap50,rfl,f50,hC,hM⟩
  ·refine sqd ha 3 [5,42] [(58,.bool (t14.1 != (4:Int)))] fun a ha=>?_;refine cnH H ha (fun hc56 H=>?_) (fun hc56 H=>?_)
   ·refine wp_region_lit ?_;refine sd ha 1 [6,58] [(61,pt g5 0)] fun a ha=>?_;refine bsl (vals:=([.int .u8 (0:Int),.int .u8 (4:Int)]:List Value)) (T:=5) ha rfl (([.int .u8 (0:Int)]:List Value)++(([.int .u8 (4:Int)]:List Value)++([]:List Value))) (fun w=>by kernel_rfl) rfl rfl rfl fun a w57 g58 hN59 ha=>?_;have o1:=oN ([g37]++([g10]++([g5]++(M)))) w43;have o2:=oA hN59 ([g37]++([g10]++([g5]++(M))));have f39:=f39.chg hN59.chg o1 o2;have hBg5:=hBg5.c0 hN59.chg;have hBg37:=hBg37.c0 hN59.chg;have p_i60_i38:=pn (B:=[g37]) hM (hN59.ge1) fun _ hy=>ml hy;have p_i60_i11:=pn (B:=[g10]) hM (hN59.ge1) fun _ hy=>mr (ml hy);have p_i60_i7:=pn (B:=[g5]) hM (hN59.ge1) fun _ hy=>mr (mr (ml hy));have p_i60_M:=pn (B:=M) hM (hN59.ge1) fun _ hy=>mr (mr (mr (hy)));have hM:=MS.app hN59.ms (hM.chg hN59.chg);have hC:=hC.t0 hN59.chg;have f61:Own (rInt .u8) 5 w57 ([g58]++([g37]++([g10]++([g5]++(M))))) (some ⟨g58,0,none⟩) 2 ([(0:Int),(4:Int)]:List Int):=hN59.own ⟨([.int .u8 (0:Int)]:List Value),_,rfl,rfl,⟨([.int .u8 (4:Int)]:List Value),_,rfl,rfl,rfl⟩⟩ (Nat.le_of_ble_eq_true rfl);refine oP (.agg (cS_api_Note (⟨(2:Int),(1:Int),([(0:Int),(4:Int)]:List Int)⟩:S_api_Note) (some ⟨g58,0,none⟩) 2).toArray) ha fun a ha=>?_;refine sd ha 2 [61] [(63,.agg (cS_api_Note (⟨(2:Int),(1:Int),([(0:Int),(4:Int)]:List Int)⟩:S_api_Note) (some ⟨g58,0,none⟩) 2).toArray),(65,pt g5 21)] fun a ha=>?_;refine stA (l:=(cS_api_Note (⟨(2:Int),(1:Int),([(0:Int),(4:Int)]:List Int)⟩:S_api_Note) (some ⟨g58,0,none⟩) 2)) ha rfl rfl rfl (by kernel_rfl) rfl rfl hBg5 rfl fun a w62 ha hb2 hc63 _=>?_;have o1:Ok [g5] ([g58]++([g37]++([g10]++([g5]++(M))))) w57.heap.size:=(fun _ h=>.inl (mr (mr (mr (ml h)))))
    have o2:=oR ([g58]++([g37]++([g10]++([g5]++(M))))) w57;have f61:=f61.chg hc63 o1 o2 p_i60_i7 (fun _ h=>ml h);have f39:=f39.chg hc63 o1 o2;have hBg37:=hBg37.chg hc63 (p_i38_i7 g37 (by simp));have hM:=hM.chg hc63;have hC:=hC.t1 hc63 e_i7;have hBg5:Box w62 g5 (cS_message_opening (⟨(⟨t17.1,t22.1,t30.1,([]:List S_api_Family),false⟩:S_api_Open),(⟨(2:Int),(1:Int),([(0:Int),(4:Int)]:List Int)⟩:S_api_Note)⟩:S_message_opening) none 0 (some ⟨g58,0,none⟩) 2):=hb2;refine hK41 _ _ ?_;refine wp_seq_k fun K64 hK64=>?_;refine wsr fun K65 hK65=>?_;refine sd ha 1 [63,65] [(66,pt g5 0)] fun a ha=>?_;have fz:=f61.toRSl (M':=[g37]++([g10]++([g5]++(M)))) (fun _ h=>.inl (mr (h))) (fun x hx hm=>(List.mem_append.1 hm).elim (fun h=>p_i60_i38 x hx h) (fun h=>(List.mem_append.1 h).elim (fun h=>p_i60_i11 x hx h) (fun h=>(List.mem_append.1 h).elim (fun h=>p_i60_i7 x hx h) (fun h=>p_i60_M x hx h))));have o1:=oN ([g58]++([g37]++([g10]++([g5]++(M))))) w62;have o2:Ok ([g37]++([g10]++([g5]++(M)))) ([g58]++([g37]++([g10]++([g5]++(M))))) w62.heap.size:=(fun _ h=>.inl (mr (h)))
    have f39:=f39.chg (Chg.refl [] _) o1 o2;have hM:MS ([g37]++([g10]++([g5]++(M)))) w62:=hM.sb fun _ h=>mr (h);have f61:=fz;obtain ⟨t66,H66,H⟩:=bind_some H;refine cL ha (message_opening_check.walk w62 _ hM g5 (⟨(⟨t17.1,t22.1,t30.1,([]:List S_api_Family),false⟩:S_api_Open),(⟨(2:Int),(1:Int),([(0:Int),(4:Int)]:List Int)⟩:S_api_Note)⟩:S_message_opening) none 0 (RSl.nil (Nat.zero_le _)) (some ⟨g58,0,none⟩) 2 f61 hBg5 (mr (mr (ml (List.mem_singleton.2 rfl)))) k _ H66) ?_;rintro _ w66 ⟨ao67,cap67,ao68,cap68,rfl,f67,f68,qhBg5,hc66,hMn⟩ a ha;have o1:Ok [g5] ([g37]++([g10]++([g5]++(M)))) w62.heap.size:=(fun _ h=>.inl (mr (mr (ml h))))
    have o2:=oR ([g37]++([g10]++([g5]++(M)))) w62;have f39:=f39.chg hc66 o1 o2;have hBg37:=hBg37.chg hc66 (p_i38_i7 g37 (by simp));have hM:=hM.chg hc66;have hC:=hC.t1 hc66 e_i7;have hBg5:=qhBg5;refine hK65 _ _ ?_;refine wsr fun K69 hK69=>?_;refine sd ha 4 [66] [(71,pt g5 21)] fun a ha=>?_;refine ld (v:=.int .i64 t66.note.Code) ha rfl (by kernel_rfl) rfl rfl rfl (hBg5.cell' (o:=21) rfl (by kernel_rfl)) fun a ha=>?_;refine sd ha 1 [71] [(73,.bool (t66.note.Code != (0:Int)))] fun a ha=>?_;refine hK69 _ _ ?_;refine cnH H ha (fun hc70 H=>?_) (fun hc70 H=>?_)
    ·exact nomatch (show none=some _ from H)
    ·refine wp_skip ?_;refine hK64 _ _ ?_;refine wsr fun K71 hK71=>?_;refine sf ha 3 [(81,pt g5 0)] fun a ha=>?_;refine ldA (cs:=(cS_api_Open t66.open_ ao67 cap67)) ha rfl (by kernel_rfl) rfl rfl rfl (cells_sub (Box.cells hBg5) (all:=(cS_message_opening t66 ao67 cap67 ao68 cap68)) [] [.int .i64 t66.note.Code,.int .i64 t66.note.Sub,.slice ao68 t66.note.Data.length cap68] (by kernel_rfl)) fun a ha=>?_;refine oP (.iface 43 (.agg (cS_api_Open t66.open_ ao67 cap67).toArray)) ha fun a ha=>?_;refine sf ha 1 [(2,.iface 43 (.agg (cS_api_Open t66.open_ ao67 cap67).toArray))] fun a ha=>?_;refine hK71 _ _ ?_;refine wrt ?_;have o1:=oN ([g37]++([g10]++([g5]++(M)))) w66;have o2:Ok (M) ([g37]++([g10]++([g5]++(M)))) w66.heap.size:=(fun _ h=>.inl (mr (mr (mr (h)))))
     have f67:=f67.chg (Chg.refl [] _) o1 o2;have hM:MS M w66:=hM.sb fun _ h=>mr (mr (mr (h)));obtain rfl:=oj H;refine rt1 ha rfl rfl ?_;exact ⟨ao67,cap67,rfl,f67,hC,hM⟩
   ·refine wp_region_lit ?_;refine sd ha 2 [6,58] [(39,pt g5 0),(40,pt g37 0)] fun a ha=>?_;obtain ⟨t72,H72,H⟩:=bind_some H;refine cL ha (message_opening_parameters.walk w43 _ hM g5 (⟨(⟨t17.1,t22.1,t30.1,([]:List S_api_Family),false⟩:S_api_Open),(⟨(0:Int),(0:Int),([]:List Int)⟩:S_api_Note)⟩:S_message_opening) none 0 (RSl.nil (Nat.zero_le _)) none 0 (RSl.nil (Nat.zero_le _)) hBg5 (mr (mr (ml (List.mem_singleton.2 rfl)))) g37 t36.1 ao39 cap39 f39 hBg37 (ml (List.mem_singleton.2 rfl)) _ H72) ?_;rintro _ w72 ⟨ao73,cap73,ao74,cap74,ao75,cap75,rfl,f73,f74,qhBg5,f75,qhBg37,hc72,hMn⟩ a ha;have hM:=hM.chg hc72;have hC:=hC.trans hc72 (Ok.app (fun x h=>.inr (e_i7 x h)) (fun x h=>.inr (e_i38 x h)));have hBg5:=qhBg5;refine hK41 _ _ ?_;refine wp_seq_k fun K76 hK76=>?_;refine wsr fun K77 hK77=>?_;refine sd ha 1 [39,40] [(66,pt g5 0)] fun a ha=>?_;obtain ⟨t78,H78,H⟩:=bind_some H;refine cL ha (message_opening_check.walk w72 _ hM g5 t72.1 ao73 cap73 f73 ao74 cap74 f74 hBg5 (mr (mr (ml (List.mem_singleton.2 rfl)))) k _ H78) ?_;rintro _ w78 ⟨ao79,cap79,ao80,cap80,rfl,f79,f80,qhBg5,hc78,hMn⟩ a ha;have o1:Ok [g5] ([g37]++([g10]++([g5]++(M)))) w72.heap.size:=(fun _ h=>.inl (mr (mr (ml h))))
    have o2:=oR ([g37]++([g10]++([g5]++(M)))) w72;have hM:=hM.chg hc78;have hC:=hC.t1 hc78 e_i7;have hBg5:=qhBg5;refine hK77 _ _ ?_;refine wsr fun K81 hK81=>?_;refine sd ha 4 [66] [(71,pt g5 21)] fun a ha=>?_;refine ld (v:=.int .i64 t78.note.Code) ha rfl (by kernel_rfl) rfl rfl rfl (hBg5.cell' (o:=21) rfl (by kernel_rfl)) fun a ha=>?_;refine sd ha 1 [71] [(73,.bool (t78.note.Code != (0:Int)))] fun a ha=>?_;refine hK81 _ _ ?_;refine cnH H ha (fun hc82 H=>?_) (fun hc82 H=>?_)
    ·exact nomatch (show none=some _ from H)
    ·refine wp_skip ?_;refine hK76 _ _ ?_;refine wsr fun K83 hK83=>?_;refine sf ha 3 [(81,pt g5 0)] fun a ha=>?_;refine ldA (cs:=(cS_api_Open t78.open_ ao79 cap79)) ha rfl (by kernel_rfl) rfl rfl rfl (cells_sub (Box.cells hBg5) (all:=(cS_message_opening t78 ao79 cap79 ao80 cap80)) [] [.int .i64 t78.note.Code,.int .i64 t78.note.Sub,.slice ao80 t78.note.Data.length cap80] (by kernel_rfl)) fun a ha=>?_;refine oP (.iface 43 (.agg (cS_api_Open t78.open_ ao79 cap79).toArray)) ha fun a ha=>?_;refine sf ha 1 [(2,.iface 43 (.agg (cS_api_Open t78.open_ ao79 cap79).toArray))] fun a ha=>?_;refine hK83 _ _ ?_;refine wrt ?_;have o1:=oN ([g37]++([g10]++([g5]++(M)))) w78;have o2:Ok (M) ([g37]++([g10]++([g5]++(M)))) w78.heap.size:=(fun _ h=>.inl (mr (mr (mr (h)))))
     have f79:=f79.chg (Chg.refl [] _) o1 o2;have hM:MS M w78:=hM.sb fun _ h=>mr (mr (mr (h)));obtain rfl:=oj H;refine rt1 ha rfl rfl ?_;exact ⟨ao79,cap79,rfl,f79,hC,hM⟩
 have H:=H43;refine sd ha 3 [] [(45,pt g10 0)] fun a ha=>?_;obtain ⟨t84,H84,H⟩:=bind_some H;refine cL ha (cursor_rest_Bad.walk w36 _ hM g10 t36.2.rest ao40 cap40 f40 hBg10 (mr (mr (ml (List.mem_singleton.2 rfl)))) _ H84) ?_;rintro _ w84 ⟨rfl,hc84,hMn⟩ a ha;have o1:=oN ([g37]++(blkL ao28++([g10]++([g5]++(M))))) w36;have o2:=oR ([g37]++(blkL ao28++([g10]++([g5]++(M))))) w36;have f40:=f40.chg hc84 o1 o2;have f39:=f39.chg hc84 o1 o2;have hBg5:=hBg5.c0 hc84;have hBg10:=hBg10.c0 hc84;have hBg37:=hBg37.c0 hc84;have hM:=hM.chg hc84;have hC:=hC.t0 hc84;refine sd ha 1 [45] [(47,.bool t84)] fun a ha=>?_;rcases Bool.eq_false_or_eq_true (t84) with hb85 | hb85
 ·have ha:=ha.lit hb85;have H:=ite_t hb85 H;refine sgd ha 7 [1,1,1,1,1,3,0] [47,4] [(42,.bool true)] fun a ha=>?_;obtain rfl:=oj H;have o1:=oN ([g37]++(blkL ao28++([g10]++([g5]++(M))))) w84;have o2:Ok ([g37]++([g10]++([g5]++(M)))) ([g37]++(blkL ao28++([g10]++([g5]++(M))))) w84.heap.size:=(Ok.app (fun _ h=>.inl (ml h)) (fun _ h=>.inl (mr (mr (h)))))
  have f40:=f40.chg (Chg.refl [] _) o1 o2;have f39:=f39.chg (Chg.refl [] _) o1 o2;have hM:MS ([g37]++([g10]++([g5]++(M)))) w84:=(MS.app (fun x h=>hM.chg (Chg.refl [] _) x (ml h)) (fun x h=>hM.chg (Chg.refl [] _) x (mr (mr (h)))))
  exact J43 _ _ (ha.sel (by kernel_rfl)) f40 f39 hBg5 hBg10 hBg37 hC hM
 ·have ha:=ha.lit hb85;have H:=ite_f hb85 H;refine sgd ha 3 [2,2,2] [4] [(47,.bool false),(50,pt g10 0)] fun a ha=>?_;obtain ⟨t86,H86,H⟩:=bind_some H;refine cL ha (cursor_rest_Left.walk w84 _ hM g10 t36.2.rest ao40 cap40 f40 hBg10 (mr (mr (ml (List.mem_singleton.2 rfl)))) _ H86) ?_;rintro _ w86 ⟨rfl,hc86,hMn⟩ a ha;have o1:=oN ([g37]++(blkL ao28++([g10]++([g5]++(M))))) w84;have o2:=oR ([g37]++(blkL ao28++([g10]++([g5]++(M))))) w84;have f40:=f40.chg hc86 o1 o2;have f39:=f39.chg hc86 o1 o2;have hBg5:=hBg5.c0 hc86;have hBg10:=hBg10.c0 hc86;have hBg37:=hBg37.c0 hc86;have hM:=hM.chg hc86;have hC:=hC.t0 hc86;refine sgd ha 3 [2,4,0] [47,50] [(42,.bool (decide (t86 > (0:Int))))] fun a ha=>?_;obtain rfl:=oj H;have o1:=oN ([g37]++(blkL ao28++([g10]++([g5]++(M))))) w86;have o2:Ok ([g37]++([g10]++([g5]++(M)))) ([g37]++(blkL ao28++([g10]++([g5]++(M))))) w86.heap.size:=(Ok.app (fun _ h=>.inl (ml h)) (fun _ h=>.inl (mr (mr (h)))))
  have f40:=f40.chg (Chg.refl [] _) o1 o2;have f39:=f39.chg (Chg.refl [] _) o1 o2;have hM:MS ([g37]++([g10]++([g5]++(M)))) w86:=(MS.app (fun x h=>hM.chg (Chg.refl [] _) x (ml h)) (fun x h=>hM.chg (Chg.refl [] _) x (mr (mr (h)))))
  exact J43 _ _ (ha.sel (by kernel_rfl)) f40 f39 hBg5 hBg10 hBg37 hC hM
def message_Body.f (k:Nat) (a0:Int) (a1:List Int):Option (S_api_Message×Int×S_api_Note):=(cursor_Open.f a1).bind fun t19=>(if (a0==(1:Int))=true then (message_readOpen.f k a1).bind fun t28=>some (((⟨a0,t28,(⟨(⟨(0:Int),([]:List S_api_Segment),(0:Int),(0:Int),(⟨(0:Int),(List.replicate 16 (0:Int))⟩:S_api_Addr),([]:List S_api_Addr),([]:List (List Int)),([]:List S_api_Tunnel)⟩:S_api_Attrs),([]:List S_api_Table),([]:List S_api_Table)⟩:S_api_Update),(⟨(0:Int),(0:Int),([]:List Int)⟩:S_api_Note),(⟨(0:Int),(0:Int)⟩:S_api_Family)⟩:S_api_Message):S_api_Message),((0:Int):Int),((⟨(0:Int),(0:Int),([]:List Int)⟩:S_api_Note):S_api_Note)) else (if (a0==(2:Int))=true then none else (if (a0==(3:Int))=true then (if (decide ((a1.length:Int) < (2:Int)))=true then some (((⟨(0:Int),(⟨(0:Int),(0:Int),(⟨(0:Int),(List.replicate 16 (0:Int))⟩:S_api_Addr),([]:List S_api_Family),false⟩:S_api_Open),(⟨(⟨(0:Int),([]:List S_api_Segment),(0:Int),(0:Int),(⟨(0:Int),(List.replicate 16 (0:Int))⟩:S_api_Addr),([]:List S_api_Addr),([]:List (List Int)),([]:List S_api_Tunnel)⟩:S_api_Attrs),([]:List S_api_Table),([]:List S_api_Table)⟩:S_api_Update),(⟨(0:Int),(0:Int),([]:List Int)⟩:S_api_Note),(⟨(0:Int),(0:Int)⟩:S_api_Family)⟩:S_api_Message):S_api_Message),((3:Int):Int),((⟨(1:Int),(2:Int),([]:List Int)⟩:S_api_Note):S_api_Note)) else (cursor_Reader_Num.f k t19 (1:Int)).bind fun t63=>(cursor_Reader_Num.f k t63.2 (1:Int)).bind fun t68=>(cursor_rest_Left.f t68.2.rest).bind fun t73=>(cursor_Reader_Take.f t68.2 t73).bind fun t74=>some (((⟨a0,(⟨(0:Int),(0:Int),(⟨(0:Int),(List.replicate 16 (0:Int))⟩:S_api_Addr),([]:List S_api_Family),false⟩:S_api_Open),(⟨(⟨(0:Int),([]:List S_api_Segment),(0:Int),(0:Int),(⟨(0:Int),(List.replicate 16 (0:Int))⟩:S_api_Addr),([]:List S_api_Addr),([]:List (List Int)),([]:List S_api_Tunnel)⟩:S_api_Attrs),([]:List S_api_Table),([]:List S_api_Table)⟩:S_api_Update),(⟨t63.1,t68.1,t74.1⟩:S_api_Note),(⟨(0:Int),(0:Int)⟩:S_api_Family)⟩:S_api_Message):S_api_Message),((0:Int):Int),((⟨(0:Int),(0:Int),([]:List Int)⟩:S_api_Note):S_api_Note))) else (if (a0==(4:Int))=true then some (((⟨a0,(⟨(0:Int),(0:Int),(⟨(0:Int),(List.replicate 16 (0:Int))⟩:S_api_Addr),([]:List S_api_Family),false⟩:S_api_Open),(⟨(⟨(0:Int),([]:List S_api_Segment),(0:Int),(0:Int),(⟨(0:Int),(List.replicate 16 (0:Int))⟩:S_api_Addr),([]:List S_api_Addr),([]:List (List Int)),([]:List S_api_Tunnel)⟩:S_api_Attrs),([]:List S_api_Table),([]:List S_api_Table)⟩:S_api_Update),(⟨(0:Int),(0:Int),([]:List Int)⟩:S_api_Note),(⟨(0:Int),(0:Int)⟩:S_api_Family)⟩:S_api_Message):S_api_Message),((0:Int):Int),((⟨(0:Int),(0:Int),([]:List Int)⟩:S_api_Note):S_api_Note)) else (if (a0==(5:Int))=true then (message_readFamily.f k t19).bind fun t96=>((if ((a1.length:Int) != (4:Int))=true then some (true:Bool) else (message_known.f t96.1).bind fun t124=>some (!t124:Bool))).bind fun s106=>(if s106=true then some (((⟨a0,(⟨(0:Int),(0:Int),(⟨(0:Int),(List.replicate 16 (0:Int))⟩:S_api_Addr),([]:List S_api_Family),false⟩:S_api_Open),(⟨(⟨(0:Int),([]:List S_api_Segment),(0:Int),(0:Int),(⟨(0:Int),(List.replicate 16 (0:Int))⟩:S_api_Addr),([]:List S_api_Addr),([]:List (List Int)),([]:List S_api_Tunnel)⟩:S_api_Attrs),([]:List S_api_Table),([]:List S_api_Table)⟩:S_api_Update),(⟨(0:Int),(0:Int),([]:List Int)⟩:S_api_Note),(⟨(0:Int),(0:Int)⟩:S_api_Family)⟩:S_api_Message):S_api_Message),((1:Int):Int),((⟨(0:Int),(0:Int),([]:List Int)⟩:S_api_Note):S_api_Note)) else some (((⟨a0,(⟨(0:Int),(0:Int),(⟨(0:Int),(List.replicate 16 (0:Int))⟩:S_api_Addr),([]:List S_api_Family),false⟩:S_api_Open),(⟨(⟨(0:Int),([]:List S_api_Segment),(0:Int),(0:Int),(⟨(0:Int),(List.replicate 16 (0:Int))⟩:S_api_Addr),([]:List S_api_Addr),([]:List (List Int)),([]:List S_api_Tunnel)⟩:S_api_Attrs),([]:List S_api_Table),([]:List S_api_Table)⟩:S_api_Update),(⟨(0:Int),(0:Int),([]:List Int)⟩:S_api_Note),t96.1⟩:S_api_Message):S_api_Message),((0:Int):Int),((⟨(0:Int),(0:Int),([]:List Int)⟩:S_api_Note):S_api_Note))) else some (((⟨(0:Int),(⟨(0:Int),(0:Int),(⟨(0:Int),(List.replicate 16 (0:Int))⟩:S_api_Addr),([]:List S_api_Family),false⟩:S_api_Open),(⟨(⟨(0:Int),([]:List S_api_Segment),(0:Int),(0:Int),(⟨(0:Int),(List.replicate 16 (0:Int))⟩:S_api_Addr),([]:List S_api_Addr),([]:List (List Int)),([]:List S_api_Tunnel)⟩:S_api_Attrs),([]:List S_api_Table),([]:List S_api_Table)⟩:S_api_Update),(⟨(0:Int),(0:Int),([]:List Int)⟩:S_api_Note),(⟨(0:Int),(0:Int)⟩:S_api_Family)⟩:S_api_Message):S_api_Message),((3:Int):Int),((⟨(1:Int),(3:Int),([]:List Int)⟩:S_api_Note):S_api_Note)))))))
set_option maxRecDepth 100000 in
theorem message_Body.walk (w:World) (M:List Nat) (hM:MS M w) (a0:Int) (a1:List Int) (ao1:Option Addr) (cap1:Nat) (f1:RSl (rInt .u8) 5 w M ao1 cap1 a1) (k:Nat) (r:S_api_Message×Int×S_api_Note) (H:message_Body.f k a0 a1=some r) :
    To Tryz.prog 13 [.int .i64 a0,.slice ao1 a1.length cap1] w fun v w'=>∃ (ao131:Option Addr) (cap131:Nat) (ao132:Option Addr) (cap132:Nat) (ao133:Option Addr) (cap133:Nat) (ao134:Option Addr) (cap134:Nat) (ao135:Option Addr) (cap135:Nat) (ao136:Option Addr) (cap136:Nat) (ao137:Option Addr) (cap137:Nat) (ao138:Option Addr) (cap138:Nat) (ao139:Option Addr) (cap139:Nat),v=.tuple #[.agg (cS_api_Message r.1 ao131 cap131 ao132 cap132 ao133 cap133 ao134 cap134 ao135 cap135 ao136 cap136 ao137 cap137 ao138 cap138).toArray,.int .i64 r.2.1,.agg (cS_api_Note r.2.2 ao139 cap139).toArray]∧(RSl rS_api_Family 40 w' (blkL ao139++(M)) ao131 cap131 r.1.Open.Families)∧(RSl rS_api_Segment 153 w' (blkL ao139++(M)) ao132 cap132 r.1.Update.Attrs.Path)∧(RSl rS_api_Addr 37 w' (blkL ao139++(M)) ao133 cap133 r.1.Update.Attrs.Clusters)∧(RSl (rArr .u8 8) 158 w' (blkL ao139++(M)) ao134 cap134 r.1.Update.Attrs.Exts)∧(RSl rS_api_Tunnel 161 w' (blkL ao139++(M)) ao135 cap135 r.1.Update.Attrs.Tunnels)∧(RSl rS_api_Table 113 w' (blkL ao139++(M)) ao136 cap136 r.1.Update.Reach)∧(RSl rS_api_Table 113 w' (blkL ao139++(M)) ao137 cap137 r.1.Update.Unreach)∧(RSl (rInt .u8) 5 w' (blkL ao139++(M)) ao138 cap138 r.1.Note.Data)∧(Own (rInt .u8) 5 w' (blkL ao139++(M)) ao139 cap139 r.2.2.Data)∧(∀ x∈blkL ao139,w.heap.size≤x)∧Chg [] w w'∧MS (blkL ao139++(M)) w':=by
 unfold message_Body.f at H;refine ent Tryz.func13 rfl [(0,.int .i64 a0),(1,.slice ao1 a1.length cap1)] rfl (by rfl) fun a ha=>?_;have hC:Chg [] w w:=Chg.refl _ _;refine wsr fun K2 hK2=>?_;refine alE (cS_api_Message (⟨(0:Int),(⟨(0:Int),(0:Int),(⟨(0:Int),(List.replicate 16 (0:Int))⟩:S_api_Addr),([]:List S_api_Family),false⟩:S_api_Open),(⟨(⟨(0:Int),([]:List S_api_Segment),(0:Int),(0:Int),(⟨(0:Int),(List.replicate 16 (0:Int))⟩:S_api_Addr),([]:List S_api_Addr),([]:List (List Int)),([]:List S_api_Tunnel)⟩:S_api_Attrs),([]:List S_api_Table),([]:List S_api_Table)⟩:S_api_Update),(⟨(0:Int),(0:Int),([]:List Int)⟩:S_api_Note),(⟨(0:Int),(0:Int)⟩:S_api_Family)⟩:S_api_Message) none 0 none 0 none 0 none 0 none 0 none 0 none 0 none 0) ha fun a w3 g4 hN5 ha=>?_;have o1:=oN M w;have o2:=oA hN5 M;have f1:=f1.chg hN5.chg o1 o2;have e_i6:=eN hC (hN5.ge1);have hM:=MS.app hN5.ms (hM.chg hN5.chg);have hC:=hC.t0 hN5.chg;have hBg4:=hN5.box;refine sd ha 1 [] [(4,pt g4 0)] fun a ha=>?_;refine alE (cS_api_Note (⟨(0:Int),(0:Int),([]:List Int)⟩:S_api_Note) none 0) ha fun a w7 g8 hN9 ha=>?_;have o1:=oN ([g4]++(M)) w3;have o2:=oA hN9 ([g4]++(M));have f1:=f1.chg hN9.chg o1 o2;have hBg4:=hBg4.c0 hN9.chg;have p_i10_i6:=pn (B:=[g4]) hM (hN9.ge1) fun _ hy=>ml hy;have e_i10:=eN hC (hN9.ge1);have hM:=MS.app hN9.ms (hM.chg hN9.chg);have hC:=hC.t0 hN9.chg;have hBg8:=hN9.box;refine hK2 _ _ ?_;refine wsr fun K11 hK11=>?_;refine sd ha 1 [] [(6,pt g8 0),(16,.int .i64 a0)] fun a ha=>?_;refine oP (.agg (cS_api_Message (⟨a0,(⟨(0:Int),(0:Int),(⟨(0:Int),(List.replicate 16 (0:Int))⟩:S_api_Addr),([]:List S_api_Family),false⟩:S_api_Open),(⟨(⟨(0:Int),([]:List S_api_Segment),(0:Int),(0:Int),(⟨(0:Int),(List.replicate 16 (0:Int))⟩:S_api_Addr),([]:List S_api_Addr),([]:List (List Int)),([]:List S_api_Tunnel)⟩:S_api_Attrs),([]:List S_api_Table),([]:List S_api_Table)⟩:S_api_Update),(⟨(0:Int),(0:Int),([]:List Int)⟩:S_api_Note),(⟨(0:Int),(0:Int)⟩:S_api_Family)⟩:S_api_Message) none 0 none 0 none 0 none 0 none 0 none 0 none 0 none 0).toArray) ha fun a ha=>?_;refine alE (cS_api_Message (⟨(0:Int),(⟨(0:Int),(0:Int),(⟨(0:Int),(List.replicate 16 (0:Int))⟩:S_api_Addr),([]:List S_api_Family),false⟩:S_api_Open),(⟨(⟨(0:Int),([]:List S_api_Segment),(0:Int),(0:Int),(⟨(0:Int),(List.replicate 16 (0:Int))⟩:S_api_Addr),([]:List S_api_Addr),([]:List (List Int)),([]:List S_api_Tunnel)⟩:S_api_Attrs),([]:List S_api_Table),([]:List S_api_Table)⟩:S_api_Update),(⟨(0:Int),(0:Int),([]:List Int)⟩:S_api_Note),(⟨(0:Int),(0:Int)⟩:S_api_Family)⟩:S_api_Message) none 0 none 0 none 0 none 0 none 0 none 0 none 0 none 0) ha fun a w12 g13 hN14 ha=>?_;have o1:=oN ([g8]++([g4]++(M))) w7;have o2:=oA hN14 ([g8]++([g4]++(M)));have f1:=f1.chg hN14.chg o1 o2;have hBg4:=hBg4.c0 hN14.chg;have hBg8:=hBg8.c0 hN14.chg;have p_i15_i10:=pn (B:=[g8]) hM (hN14.ge1) fun _ hy=>ml hy;have p_i15_i6:=pn (B:=[g4]) hM (hN14.ge1) fun _ hy=>mr (ml hy);have e_i15:=eN hC (hN14.ge1);have hM:=MS.app hN14.ms (hM.chg hN14.chg);have hC:=hC.t0 hN14.chg;have hBg13:=hN14.box;refine stE (cS_api_Message (⟨a0,(⟨(0:Int),(0:Int),(⟨(0:Int),(List.replicate 16 (0:Int))⟩:S_api_Addr),([]:List S_api_Family),false⟩:S_api_Open),(⟨(⟨(0:Int),([]:List S_api_Segment),(0:Int),(0:Int),(⟨(0:Int),(List.replicate 16 (0:Int))⟩:S_api_Addr),([]:List S_api_Addr),([]:List (List Int)),([]:List S_api_Tunnel)⟩:S_api_Attrs),([]:List S_api_Table),([]:List S_api_Table)⟩:S_api_Update),(⟨(0:Int),(0:Int),([]:List Int)⟩:S_api_Note),(⟨(0:Int),(0:Int)⟩:S_api_Family)⟩:S_api_Message) none 0 none 0 none 0 none 0 none 0 none 0 none 0 none 0) ha hBg13 fun a w16 ha hBg13 hc17 _=>?_;have o1:Ok [g13] ([g13]++([g8]++([g4]++(M)))) w12.heap.size:=(fun _ h=>.inl (ml h))
 have o2:=oR ([g13]++([g8]++([g4]++(M)))) w12;have f1:=f1.chg hc17 o1 o2;have hBg4:=hBg4.chg hc17 ((fun x (hx:x∈[g4]) (hy:x∈[g13])=>p_i15_i6 x hy hx) g4 (by simp));have hBg8:=hBg8.chg hc17 ((fun x (hx:x∈[g8]) (hy:x∈[g13])=>p_i15_i10 x hy hx) g8 (by simp));have hM:=hM.chg hc17;have hC:=hC.t1 hc17 e_i15;refine hK11 _ _ ?_;refine wsr fun K18 hK18=>?_;refine sd ha 1 [16] [(7,pt g13 0),(18,.slice ao1 a1.length cap1)] fun a ha=>?_;obtain ⟨t19,H19,H⟩:=bind_some H;refine cL ha (cursor_Open.walk w16 _ hM a1 ao1 cap1 f1 _ H19) ?_;rintro _ w19 ⟨g20,ao22,cap22,rfl,f22,hBg20,ne_i21,hc19,hMn⟩ a ha;have o1:=oN ([g13]++([g8]++([g4]++(M)))) w16;have o2:Ok ([g20]++([g13]++([g8]++([g4]++(M))))) ([g13]++([g8]++([g4]++(M)))) w16.heap.size:=(Ok.app (fun x h=>.inr (ne_i21 x h)) (Ok.refl _ _))
 have f1:=f1.chg hc19 o1 o2;have hBg4:=hBg4.c0 hc19;have hBg8:=hBg8.c0 hc19;have hBg13:=hBg13.c0 hc19;have p_i21_i15:=pn (B:=[g13]) hM ne_i21 fun _ hy=>ml hy;have p_i21_i10:=pn (B:=[g8]) hM ne_i21 fun _ hy=>mr (ml hy);have p_i21_i6:=pn (B:=[g4]) hM ne_i21 fun _ hy=>mr (mr (ml hy));have e_i21:=eN hC ne_i21;have hM:MS ([g20]++([g13]++([g8]++([g4]++(M))))) w19:=(MS.app (fun x h=>hMn x (ml h)) (hM.chg hc19))
 have hC:=hC.t0 hc19;refine sd ha 1 [18] [(8,pt g20 0)] fun a ha=>?_;refine hK18 _ _ ?_;refine wp_seq_k fun K23 hK23=>?_;refine sqd ha 1 [0] [(20,.int .i64 a0)] fun a ha=>?_;refine wp_block ?_;refine sqd ha 2 [] [(21,.bool (a0==(1:Int)))] fun a ha=>?_;refine cnH H ha (fun hc26 H=>?_) (fun hc26 H=>?_)
 ·refine wsr fun K27 hK27=>?_;refine sd ha 1 [1,8,20,21] [(23,.slice ao1 a1.length cap1)] fun a ha=>?_;obtain ⟨t28,H28,H⟩:=bind_some H;refine cL ha (message_readOpen.walk w19 _ hM a1 ao1 cap1 f1 k _ H28) ?_;rintro _ w28 ⟨ao29,cap29,rfl,f29,hc28,hMn⟩ a ha;have o1:=oN ([g20]++([g13]++([g8]++([g4]++(M))))) w19;have o2:=oR ([g20]++([g13]++([g8]++([g4]++(M))))) w19;have f22:=f22.chg hc28 o1 o2;have hBg4:=hBg4.c0 hc28;have hBg8:=hBg8.c0 hc28;have hBg13:=hBg13.c0 hc28;have hBg20:=hBg20.c0 hc28;have hM:=hM.chg hc28;have hC:=hC.t0 hc28;refine sd ha 1 [23] [(9,.iface 43 (.agg (cS_api_Open t28 ao29 cap29).toArray))] fun a ha=>?_;refine hK27 _ _ ?_;refine wp_seq_k fun K30 hK30=>?_;refine wsr fun K31 hK31=>?_;refine sd ha 1 [] [(26,.iface 43 (.agg (cS_api_Open t28 ao29 cap29).toArray))] fun a ha=>?_;refine oP (.tuple #[.agg (cS_api_Note (⟨(0:Int),(0:Int),([]:List Int)⟩:S_api_Note) none 0).toArray,.bool false]) ha fun a ha=>?_;refine sd ha 3 [26] [(28,.agg (cS_api_Note (⟨(0:Int),(0:Int),([]:List Int)⟩:S_api_Note) none 0).toArray),(29,.bool false)] fun a ha=>?_;refine alE (cS_api_Note (⟨(0:Int),(0:Int),([]:List Int)⟩:S_api_Note) none 0) ha fun a w32 g33 hN34 ha=>?_;have o1:=oN ([g20]++([g13]++([g8]++([g4]++(M))))) w28;have o2:=oA hN34 ([g20]++([g13]++([g8]++([g4]++(M)))));have f29:=f29.chg hN34.chg o1 o2;have f22:=f22.chg hN34.chg o1 o2;have hBg4:=hBg4.c0 hN34.chg;have hBg8:=hBg8.c0 hN34.chg;have hBg13:=hBg13.c0 hN34.chg;have hBg20:=hBg20.c0 hN34.chg;have p_i35_i21:=pn (B:=[g20]) hM (hN34.ge1) fun _ hy=>ml hy;have p_i35_i15:=pn (B:=[g13]) hM (hN34.ge1) fun _ hy=>mr (ml hy);have p_i35_i10:=pn (B:=[g8]) hM (hN34.ge1) fun _ hy=>mr (mr (ml hy));have p_i35_i6:=pn (B:=[g4]) hM (hN34.ge1) fun _ hy=>mr (mr (mr (ml hy)));have e_i35:=eN hC (hN34.ge1);have hM:=MS.app hN34.ms (hM.chg hN34.chg);have hC:=hC.t0 hN34.chg;have hBg33:=hN34.box;refine stA (l:=(cS_api_Note (⟨(0:Int),(0:Int),([]:List Int)⟩:S_api_Note) none 0)) ha rfl rfl rfl (by kernel_rfl) rfl rfl hBg33 rfl fun a w36 ha hb2 hc37 _=>?_;have o1:Ok [g33] ([g33]++([g20]++([g13]++([g8]++([g4]++(M)))))) w32.heap.size:=(fun _ h=>.inl (ml h))
  have o2:=oR ([g33]++([g20]++([g13]++([g8]++([g4]++(M)))))) w32;have f29:=f29.chg hc37 o1 o2;have f22:=f22.chg hc37 o1 o2;have hBg4:=hBg4.chg hc37 ((fun x (hx:x∈[g4]) (hy:x∈[g33])=>p_i35_i6 x hy hx) g4 (by simp));have hBg8:=hBg8.chg hc37 ((fun x (hx:x∈[g8]) (hy:x∈[g33])=>p_i35_i10 x hy hx) g8 (by simp));have hBg13:=hBg13.chg hc37 ((fun x (hx:x∈[g13]) (hy:x∈[g33])=>p_i35_i15 x hy hx) g13 (by simp));have hBg20:=hBg20.chg hc37 ((fun x (hx:x∈[g20]) (hy:x∈[g33])=>p_i35_i21 x hy hx) g20 (by simp));have hM:=hM.chg hc37;have hC:=hC.t1 hc37 e_i35;refine sd ha 1 [28,29] [(10,pt g33 0),(11,.bool false)] fun a ha=>?_;refine hK31 _ _ ?_;refine sqd ha 1 [11] [(30,.bool false)] fun a ha=>?_;refine cnd ha rfl (fun h=>nomatch h) (fun _=>?_);refine wp_skip ?_;refine hK30 _ _ ?_;refine wsr fun K40 hK40=>?_;refine sd ha 1 [9,10,30] [(33,.iface 43 (.agg (cS_api_Open t28 ao29 cap29).toArray))] fun a ha=>?_;refine oP (.agg (cS_api_Open t28 ao29 cap29).toArray) ha fun a ha=>?_;refine sd ha 1 [33] [(34,.agg (cS_api_Open t28 ao29 cap29).toArray),(35,pt g13 1)] fun a ha=>?_;refine stA (l:=(cS_api_Open t28 ao29 cap29)) ha rfl rfl rfl (by kernel_rfl) rfl rfl hBg13 rfl fun a w41 ha hb2 hc42 _=>?_;have o1:Ok [g13] ([g33]++([g20]++([g13]++([g8]++([g4]++(M)))))) w36.heap.size:=(fun _ h=>.inl (mr (mr (ml h))))
  have o2:=oR ([g33]++([g20]++([g13]++([g8]++([g4]++(M)))))) w36;have f29:=f29.chg hc42 o1 o2;have f22:=f22.chg hc42 o1 o2;have hBg4:=hBg4.chg hc42 ((fun x (hx:x∈[g4]) (hy:x∈[g13])=>p_i15_i6 x hy hx) g4 (by simp));have hBg8:=hBg8.chg hc42 ((fun x (hx:x∈[g8]) (hy:x∈[g13])=>p_i15_i10 x hy hx) g8 (by simp));have hBg20:=hBg20.chg hc42 (p_i21_i15 g20 (by simp));have hM:=hM.chg hc42;have hC:=hC.t1 hc42 e_i15;have hBg13:Box w41 g13 (cS_api_Message (⟨a0,t28,(⟨(⟨(0:Int),([]:List S_api_Segment),(0:Int),(0:Int),(⟨(0:Int),(List.replicate 16 (0:Int))⟩:S_api_Addr),([]:List S_api_Addr),([]:List (List Int)),([]:List S_api_Tunnel)⟩:S_api_Attrs),([]:List S_api_Table),([]:List S_api_Table)⟩:S_api_Update),(⟨(0:Int),(0:Int),([]:List Int)⟩:S_api_Note),(⟨(0:Int),(0:Int)⟩:S_api_Family)⟩:S_api_Message) ao29 cap29 none 0 none 0 none 0 none 0 none 0 none 0 none 0):=hb2;refine hK40 _ _ ?_;refine wsr fun K43 hK43=>?_;refine ldE (Box.cells hBg13) ha fun a ha=>?_;refine oP (.agg (cS_api_Note (⟨(0:Int),(0:Int),([]:List Int)⟩:S_api_Note) none 0).toArray) ha fun a ha=>?_;refine stE (cS_api_Message (⟨a0,t28,(⟨(⟨(0:Int),([]:List S_api_Segment),(0:Int),(0:Int),(⟨(0:Int),(List.replicate 16 (0:Int))⟩:S_api_Addr),([]:List S_api_Addr),([]:List (List Int)),([]:List S_api_Tunnel)⟩:S_api_Attrs),([]:List S_api_Table),([]:List S_api_Table)⟩:S_api_Update),(⟨(0:Int),(0:Int),([]:List Int)⟩:S_api_Note),(⟨(0:Int),(0:Int)⟩:S_api_Family)⟩:S_api_Message) ao29 cap29 none 0 none 0 none 0 none 0 none 0 none 0 none 0) ha hBg4 fun a w44 ha hBg4 hc45 _=>?_;have o1:Ok [g4] ([g33]++([g20]++([g13]++([g8]++([g4]++(M)))))) w41.heap.size:=(fun _ h=>.inl (mr (mr (mr (mr (ml h))))))
  have o2:=oR ([g33]++([g20]++([g13]++([g8]++([g4]++(M)))))) w41;have f29:=f29.chg hc45 o1 o2;have f22:=f22.chg hc45 o1 o2;have hBg8:=hBg8.chg hc45 (p_i10_i6 g8 (by simp));have hBg13:=hBg13.chg hc45 (p_i15_i6 g13 (by simp));have hBg20:=hBg20.chg hc45 (p_i21_i6 g20 (by simp));have hM:=hM.chg hc45;have hC:=hC.t1 hc45 e_i6;refine sd ha 1 [7,34,35] [(5,.int .i64 0),(37,.agg (cS_api_Note (⟨(0:Int),(0:Int),([]:List Int)⟩:S_api_Note) none 0).toArray)] fun a ha=>?_;refine stE (cS_api_Note (⟨(0:Int),(0:Int),([]:List Int)⟩:S_api_Note) none 0) ha hBg8 fun a w46 ha hBg8 hc47 _=>?_;have o1:Ok [g8] ([g33]++([g20]++([g13]++([g8]++([g4]++(M)))))) w44.heap.size:=(fun _ h=>.inl (mr (mr (mr (ml h)))))
  have o2:=oR ([g33]++([g20]++([g13]++([g8]++([g4]++(M)))))) w44;have f29:=f29.chg hc47 o1 o2;have f22:=f22.chg hc47 o1 o2;have hBg4:=hBg4.chg hc47 ((fun x (hx:x∈[g4]) (hy:x∈[g8])=>p_i10_i6 x hy hx) g4 (by simp));have hBg13:=hBg13.chg hc47 (p_i15_i10 g13 (by simp));have hBg20:=hBg20.chg hc47 (p_i21_i10 g20 (by simp));have hM:=hM.chg hc47;have hC:=hC.t1 hc47 e_i10;refine hK43 _ _ ?_;refine wrt ?_;have o1:=oN ([g33]++([g20]++([g13]++([g8]++([g4]++(M)))))) w46;have o2:Ok (blkL none++(M)) ([g33]++([g20]++([g13]++([g8]++([g4]++(M)))))) w46.heap.size:=(Ok.app (fun _ h=>nomatch h) (fun _ h=>.inl (mr (mr (mr (mr (mr (h))))))))
  have f29:=f29.chg (Chg.refl [] _) o1 o2;have f22:=f22.chg (Chg.refl [] _) o1 o2;have e_z48:∀ x∈blkL none,w.heap.size≤x:=fun x hx=>Nat.le_trans hC.size ((fun _ h=>nomatch h) x hx);have hM:MS (blkL none++(M)) w46:=(MS.app (fun _ h=>nomatch h) (fun x h=>hM.chg (Chg.refl [] _) x (mr (mr (mr (mr (mr (h))))))))
  obtain rfl:=oj H;refine rtr ha (res3 rfl (roA ha rfl hBg4 (by kernel_rfl)) (roT ha rfl) (roA ha rfl hBg8 (by kernel_rfl))) ?_;exact ⟨ao29,cap29,none,0,none,0,none,0,none,0,none,0,none,0,none,0,none,0,rfl,f29,(RSl.nil (Nat.zero_le _)),(RSl.nil (Nat.zero_le _)),(RSl.nil (Nat.zero_le _)),(RSl.nil (Nat.zero_le _)),(RSl.nil (Nat.zero_le _)),(RSl.nil (Nat.zero_le _)),(RSl.nil (Nat.zero_le _)),Own.nil,e_z48,hC,hM⟩
 ·refine sqd ha 2 [21] [(38,.bool (a0==(2:Int)))] fun a ha=>?_;refine cnH H ha (fun hc50 H=>?_) (fun hc50 H=>?_)
  ·exact nomatch (show none=some _ from H)
  ·refine sqd ha 2 [38] [(56,.bool (a0==(3:Int)))] fun a ha=>?_;refine cnH H ha (fun hc52 H=>?_) (fun hc52 H=>?_)
   ·refine wp_seq_k fun K53 hK53=>?_;refine sqd ha 3 [1,20,56] [(60,.bool (decide ((a1.length:Int) < (2:Int))))] fun a ha=>?_;refine cnH H ha (fun hc55 H=>?_) (fun hc55 H=>?_)
    ·refine wsr fun K56 hK56=>?_;refine oP (.agg (cS_api_Message (⟨(0:Int),(⟨(0:Int),(0:Int),(⟨(0:Int),(List.replicate 16 (0:Int))⟩:S_api_Addr),([]:List S_api_Family),false⟩:S_api_Open),(⟨(⟨(0:Int),([]:List S_api_Segment),(0:Int),(0:Int),(⟨(0:Int),(List.replicate 16 (0:Int))⟩:S_api_Addr),([]:List S_api_Addr),([]:List (List Int)),([]:List S_api_Tunnel)⟩:S_api_Attrs),([]:List S_api_Table),([]:List S_api_Table)⟩:S_api_Update),(⟨(0:Int),(0:Int),([]:List Int)⟩:S_api_Note),(⟨(0:Int),(0:Int)⟩:S_api_Family)⟩:S_api_Message) none 0 none 0 none 0 none 0 none 0 none 0 none 0 none 0).toArray) ha fun a ha=>?_;refine oP (.agg (cS_api_Note (⟨(1:Int),(2:Int),([]:List Int)⟩:S_api_Note) none 0).toArray) ha fun a ha=>?_;refine stE (cS_api_Message (⟨(0:Int),(⟨(0:Int),(0:Int),(⟨(0:Int),(List.replicate 16 (0:Int))⟩:S_api_Addr),([]:List S_api_Family),false⟩:S_api_Open),(⟨(⟨(0:Int),([]:List S_api_Segment),(0:Int),(0:Int),(⟨(0:Int),(List.replicate 16 (0:Int))⟩:S_api_Addr),([]:List S_api_Addr),([]:List (List Int)),([]:List S_api_Tunnel)⟩:S_api_Attrs),([]:List S_api_Table),([]:List S_api_Table)⟩:S_api_Update),(⟨(0:Int),(0:Int),([]:List Int)⟩:S_api_Note),(⟨(0:Int),(0:Int)⟩:S_api_Family)⟩:S_api_Message) none 0 none 0 none 0 none 0 none 0 none 0 none 0 none 0) ha hBg4 fun a w57 ha hBg4 hc58 _=>?_;have o1:Ok [g4] ([g20]++([g13]++([g8]++([g4]++(M))))) w19.heap.size:=(fun _ h=>.inl (mr (mr (mr (ml h)))))
     have o2:=oR ([g20]++([g13]++([g8]++([g4]++(M))))) w19;have f22:=f22.chg hc58 o1 o2;have hBg8:=hBg8.chg hc58 (p_i10_i6 g8 (by simp));have hBg13:=hBg13.chg hc58 (p_i15_i6 g13 (by simp));have hBg20:=hBg20.chg hc58 (p_i21_i6 g20 (by simp));have hM:=hM.chg hc58;have hC:=hC.t1 hc58 e_i6;refine sd ha 1 [7,8,60] [(5,.int .i64 3),(62,.agg (cS_api_Note (⟨(1:Int),(2:Int),([]:List Int)⟩:S_api_Note) none 0).toArray)] fun a ha=>?_;refine stE (cS_api_Note (⟨(1:Int),(2:Int),([]:List Int)⟩:S_api_Note) none 0) ha hBg8 fun a w59 ha hBg8 hc60 _=>?_;have o1:Ok [g8] ([g20]++([g13]++([g8]++([g4]++(M))))) w57.heap.size:=(fun _ h=>.inl (mr (mr (ml h))))
     have o2:=oR ([g20]++([g13]++([g8]++([g4]++(M))))) w57;have f22:=f22.chg hc60 o1 o2;have hBg4:=hBg4.chg hc60 ((fun x (hx:x∈[g4]) (hy:x∈[g8])=>p_i10_i6 x hy hx) g4 (by simp));have hBg13:=hBg13.chg hc60 (p_i15_i10 g13 (by simp));have hBg20:=hBg20.chg hc60 (p_i21_i10 g20 (by simp));have hM:=hM.chg hc60;have hC:=hC.t1 hc60 e_i10;refine hK56 _ _ ?_;refine wrt ?_;have o1:=oN ([g20]++([g13]++([g8]++([g4]++(M))))) w59;have o2:Ok (blkL none++(M)) ([g20]++([g13]++([g8]++([g4]++(M))))) w59.heap.size:=(Ok.app (fun _ h=>nomatch h) (fun _ h=>.inl (mr (mr (mr (mr (h)))))))
     have f22:=f22.chg (Chg.refl [] _) o1 o2;have e_z61:∀ x∈blkL none,w.heap.size≤x:=fun x hx=>Nat.le_trans hC.size ((fun _ h=>nomatch h) x hx);have hM:MS (blkL none++(M)) w59:=(MS.app (fun _ h=>nomatch h) (fun x h=>hM.chg (Chg.refl [] _) x (mr (mr (mr (mr (h)))))))
     obtain rfl:=oj H;refine rtr ha (res3 rfl (roA ha rfl hBg4 (by kernel_rfl)) (roT ha rfl) (roA ha rfl hBg8 (by kernel_rfl))) ?_;exact ⟨none,0,none,0,none,0,none,0,none,0,none,0,none,0,none,0,none,0,rfl,(RSl.nil (Nat.zero_le _)),(RSl.nil (Nat.zero_le _)),(RSl.nil (Nat.zero_le _)),(RSl.nil (Nat.zero_le _)),(RSl.nil (Nat.zero_le _)),(RSl.nil (Nat.zero_le _)),(RSl.nil (Nat.zero_le _)),(RSl.nil (Nat.zero_le _)),Own.nil,e_z61,hC,hM⟩
    ·refine wp_skip ?_;refine hK53 _ _ ?_;refine wsr fun K62 hK62=>?_;refine sd ha 1 [60] [(63,pt g20 0)] fun a ha=>?_;obtain ⟨t63,H63,H⟩:=bind_some H;refine cL ha (cursor_Reader_Num.walk w19 _ hM g20 t19 ao22 cap22 f22 hBg20 (ml (List.mem_singleton.2 rfl)) (1:Int) k _ H63) ?_;rintro _ w63 ⟨ao64,cap64,rfl,f64,qhBg20,hc63,hMn⟩ a ha;have hBg4:=hBg4.chg hc63 ((fun x (hx:x∈[g4]) (hy:x∈[g20])=>p_i21_i6 x hy hx) g4 (by simp));have hBg8:=hBg8.chg hc63 ((fun x (hx:x∈[g8]) (hy:x∈[g20])=>p_i21_i10 x hy hx) g8 (by simp));have hBg13:=hBg13.chg hc63 ((fun x (hx:x∈[g13]) (hy:x∈[g20])=>p_i21_i15 x hy hx) g13 (by simp));have hM:=hM.chg hc63;have hC:=hC.t1 hc63 e_i21;have hBg20:=qhBg20;refine sd ha 2 [63] [(64,.int .i64 t63.1),(66,pt g13 48)] fun a ha=>?_;refine st ha rfl rfl rfl (by kernel_rfl) rfl rfl hBg13 (Nat.le_of_ble_eq_true (by kernel_rfl)) fun a w65 ha hb2 hc66 _=>?_;have o1:Ok [g13] ([g20]++([g13]++([g8]++([g4]++(M))))) w63.heap.size:=(fun _ h=>.inl (mr (ml h)))
     have o2:=oR ([g20]++([g13]++([g8]++([g4]++(M))))) w63;have f64:=f64.chg hc66 o1 o2;have hBg4:=hBg4.chg hc66 ((fun x (hx:x∈[g4]) (hy:x∈[g13])=>p_i15_i6 x hy hx) g4 (by simp));have hBg8:=hBg8.chg hc66 ((fun x (hx:x∈[g8]) (hy:x∈[g13])=>p_i15_i10 x hy hx) g8 (by simp));have hBg20:=hBg20.chg hc66 (p_i21_i15 g20 (by simp));have hM:=hM.chg hc66;have hC:=hC.t1 hc66 e_i15;have hBg13:Box w65 g13 (cS_api_Message (⟨a0,(⟨(0:Int),(0:Int),(⟨(0:Int),(List.replicate 16 (0:Int))⟩:S_api_Addr),([]:List S_api_Family),false⟩:S_api_Open),(⟨(⟨(0:Int),([]:List S_api_Segment),(0:Int),(0:Int),(⟨(0:Int),(List.replicate 16 (0:Int))⟩:S_api_Addr),([]:List S_api_Addr),([]:List (List Int)),([]:List S_api_Tunnel)⟩:S_api_Attrs),([]:List S_api_Table),([]:List S_api_Table)⟩:S_api_Update),(⟨t63.1,(0:Int),([]:List Int)⟩:S_api_Note),(⟨(0:Int),(0:Int)⟩:S_api_Family)⟩:S_api_Message) none 0 none 0 none 0 none 0 none 0 none 0 none 0 none 0):=hb2;refine hK62 _ _ ?_;refine wsr fun K67 hK67=>?_;refine sd ha 1 [64,66] [(67,pt g20 0)] fun a ha=>?_;obtain ⟨t68,H68,H⟩:=bind_some H;refine cL ha (cursor_Reader_Num.walk w65 _ hM g20 t63.2 ao64 cap64 f64 hBg20 (ml (List.mem_singleton.2 rfl)) (1:Int) k _ H68) ?_;rintro _ w68 ⟨ao69,cap69,rfl,f69,qhBg20,hc68,hMn⟩ a ha;have hBg4:=hBg4.chg hc68 ((fun x (hx:x∈[g4]) (hy:x∈[g20])=>p_i21_i6 x hy hx) g4 (by simp));have hBg8:=hBg8.chg hc68 ((fun x (hx:x∈[g8]) (hy:x∈[g20])=>p_i21_i10 x hy hx) g8 (by simp));have hBg13:=hBg13.chg hc68 ((fun x (hx:x∈[g13]) (hy:x∈[g20])=>p_i21_i15 x hy hx) g13 (by simp));have hM:=hM.chg hc68;have hC:=hC.t1 hc68 e_i21;have hBg20:=qhBg20;refine sd ha 2 [67] [(68,.int .i64 t68.1),(70,pt g13 49)] fun a ha=>?_;refine st ha rfl rfl rfl (by kernel_rfl) rfl rfl hBg13 (Nat.le_of_ble_eq_true (by kernel_rfl)) fun a w70 ha hb2 hc71 _=>?_;have o1:Ok [g13] ([g20]++([g13]++([g8]++([g4]++(M))))) w68.heap.size:=(fun _ h=>.inl (mr (ml h)))
     have o2:=oR ([g20]++([g13]++([g8]++([g4]++(M))))) w68;have f69:=f69.chg hc71 o1 o2;have hBg4:=hBg4.chg hc71 ((fun x (hx:x∈[g4]) (hy:x∈[g13])=>p_i15_i6 x hy hx) g4 (by simp));have hBg8:=hBg8.chg hc71 ((fun x (hx:x∈[g8]) (hy:x∈[g13])=>p_i15_i10 x hy hx) g8 (by simp));have hBg20:=hBg20.chg hc71 (p_i21_i15 g20 (by simp));have hM:=hM.chg hc71;have hC:=hC.t1 hc71 e_i15;have hBg13:Box w70 g13 (cS_api_Message (⟨a0,(⟨(0:Int),(0:Int),(⟨(0:Int),(List.replicate 16 (0:Int))⟩:S_api_Addr),([]:List S_api_Family),false⟩:S_api_Open),(⟨(⟨(0:Int),([]:List S_api_Segment),(0:Int),(0:Int),(⟨(0:Int),(List.replicate 16 (0:Int))⟩:S_api_Addr),([]:List S_api_Addr),([]:List (List Int)),([]:List S_api_Tunnel)⟩:S_api_Attrs),([]:List S_api_Table),([]:List S_api_Table)⟩:S_api_Update),(⟨t63.1,t68.1,([]:List Int)⟩:S_api_Note),(⟨(0:Int),(0:Int)⟩:S_api_Family)⟩:S_api_Message) none 0 none 0 none 0 none 0 none 0 none 0 none 0 none 0):=hb2;refine hK67 _ _ ?_;refine wsr fun K72 hK72=>?_;refine sd ha 4 [8,68,70] [(71,pt g20 0),(74,pt g20 0)] fun a ha=>?_;obtain ⟨t73,H73,H⟩:=bind_some H;refine cL ha (cursor_rest_Left.walk w70 _ hM g20 t68.2.rest ao69 cap69 f69 hBg20 (ml (List.mem_singleton.2 rfl)) _ H73) ?_;rintro _ w73 ⟨rfl,hc73,hMn⟩ a ha;have o1:=oN ([g20]++([g13]++([g8]++([g4]++(M))))) w70;have o2:=oR ([g20]++([g13]++([g8]++([g4]++(M))))) w70;have f69:=f69.chg hc73 o1 o2;have hBg4:=hBg4.c0 hc73;have hBg8:=hBg8.c0 hc73;have hBg13:=hBg13.c0 hc73;have hBg20:=hBg20.c0 hc73;have hM:=hM.chg hc73;have hC:=hC.t0 hc73;obtain ⟨t74,H74,H⟩:=bind_some H;refine cL ha (cursor_Reader_Take.walk w73 _ hM g20 t68.2 ao69 cap69 f69 hBg20 (ml (List.mem_singleton.2 rfl)) t73 _ H74) ?_;rintro _ w74 ⟨ao75,cap75,ao76,cap76,rfl,f75,f76,qhBg20,ne_i75,hc74,hMn⟩ a ha;have hBg4:=hBg4.chg hc74 ((fun x (hx:x∈[g4]) (hy:x∈[g20])=>p_i21_i6 x hy hx) g4 (by simp));have hBg8:=hBg8.chg hc74 ((fun x (hx:x∈[g8]) (hy:x∈[g20])=>p_i21_i10 x hy hx) g8 (by simp));have hBg13:=hBg13.chg hc74 ((fun x (hx:x∈[g13]) (hy:x∈[g20])=>p_i21_i15 x hy hx) g13 (by simp));have p_i75_i21:=pn (B:=[g20]) hM ne_i75 fun _ hy=>ml hy;have p_i75_i15:=pn (B:=[g13]) hM ne_i75 fun _ hy=>mr (ml hy);have p_i75_i10:=pn (B:=[g8]) hM ne_i75 fun _ hy=>mr (mr (ml hy));have p_i75_i6:=pn (B:=[g4]) hM ne_i75 fun _ hy=>mr (mr (mr (ml hy)));have p_i75_M:=pn (B:=M) hM ne_i75 fun _ hy=>mr (mr (mr (mr (hy))));have hM:MS (blkL ao75++([g20]++([g13]++([g8]++([g4]++(M)))))) w74:=(MS.app (fun x h=>hMn x (ml h)) (hM.chg hc74))
     have hC:=hC.t1 hc74 e_i21;refine sd ha 2 [71,74] [(76,.slice ao75 t74.1.length cap75),(78,pt g13 50)] fun a ha=>?_;refine st ha rfl rfl rfl (by kernel_rfl) rfl rfl hBg13 (Nat.le_of_ble_eq_true (by kernel_rfl)) fun a w77 ha hb2 hc78 _=>?_;have o1:Ok [g13] (blkL ao75++([g20]++([g13]++([g8]++([g4]++(M)))))) w74.heap.size:=(fun _ h=>.inl (mr (mr (ml h))))
     have o2:=oR (blkL ao75++([g20]++([g13]++([g8]++([g4]++(M)))))) w74;have f75:=f75.chg hc78 o1 o2 p_i75_i15 (fun _ h=>ml h);have hBg4:=hBg4.chg hc78 ((fun x (hx:x∈[g4]) (hy:x∈[g13])=>p_i15_i6 x hy hx) g4 (by simp));have hBg8:=hBg8.chg hc78 ((fun x (hx:x∈[g8]) (hy:x∈[g13])=>p_i15_i10 x hy hx) g8 (by simp));have hM:=hM.chg hc78;have hC:=hC.t1 hc78 e_i15;have hBg13:Box w77 g13 (cS_api_Message (⟨a0,(⟨(0:Int),(0:Int),(⟨(0:Int),(List.replicate 16 (0:Int))⟩:S_api_Addr),([]:List S_api_Family),false⟩:S_api_Open),(⟨(⟨(0:Int),([]:List S_api_Segment),(0:Int),(0:Int),(⟨(0:Int),(List.replicate 16 (0:Int))⟩:S_api_Addr),([]:List S_api_Addr),([]:List (List Int)),([]:List S_api_Tunnel)⟩:S_api_Attrs),([]:List S_api_Table),([]:List S_api_Table)⟩:S_api_Update),(⟨t63.1,t68.1,t74.1⟩:S_api_Note),(⟨(0:Int),(0:Int)⟩:S_api_Family)⟩:S_api_Message) none 0 none 0 none 0 none 0 none 0 none 0 none 0 ao75 cap75):=hb2;refine hK72 _ _ ?_;refine wsr fun K79 hK79=>?_;refine ldE (Box.cells hBg13) ha fun a ha=>?_;refine oP (.agg (cS_api_Note (⟨(0:Int),(0:Int),([]:List Int)⟩:S_api_Note) none 0).toArray) ha fun a ha=>?_;refine stE (cS_api_Message (⟨a0,(⟨(0:Int),(0:Int),(⟨(0:Int),(List.replicate 16 (0:Int))⟩:S_api_Addr),([]:List S_api_Family),false⟩:S_api_Open),(⟨(⟨(0:Int),([]:List S_api_Segment),(0:Int),(0:Int),(⟨(0:Int),(List.replicate 16 (0:Int))⟩:S_api_Addr),([]:List S_api_Addr),([]:List (List Int)),([]:List S_api_Tunnel)⟩:S_api_Attrs),([]:List S_api_Table),([]:List S_api_Table)⟩:S_api_Update),(⟨t63.1,t68.1,t74.1⟩:S_api_Note),(⟨(0:Int),(0:Int)⟩:S_api_Family)⟩:S_api_Message) none 0 none 0 none 0 none 0 none 0 none 0 none 0 ao75 cap75) ha hBg4 fun a w80 ha hBg4 hc81 _=>?_;have o1:Ok [g4] (blkL ao75++([g20]++([g13]++([g8]++([g4]++(M)))))) w77.heap.size:=(fun _ h=>.inl (mr (mr (mr (mr (ml h))))))
     have o2:=oR (blkL ao75++([g20]++([g13]++([g8]++([g4]++(M)))))) w77;have f75:=f75.chg hc81 o1 o2 p_i75_i6 (fun _ h=>ml h);have hBg8:=hBg8.chg hc81 (p_i10_i6 g8 (by simp));have hM:=hM.chg hc81;have hC:=hC.t1 hc81 e_i6;refine sd ha 1 [7,76,78] [(5,.int .i64 0),(80,.agg (cS_api_Note (⟨(0:Int),(0:Int),([]:List Int)⟩:S_api_Note) none 0).toArray)] fun a ha=>?_;refine stE (cS_api_Note (⟨(0:Int),(0:Int),([]:List Int)⟩:S_api_Note) none 0) ha hBg8 fun a w82 ha hBg8 hc83 _=>?_;have o1:Ok [g8] (blkL ao75++([g20]++([g13]++([g8]++([g4]++(M)))))) w80.heap.size:=(fun _ h=>.inl (mr (mr (mr (ml h)))))
     have o2:=oR (blkL ao75++([g20]++([g13]++([g8]++([g4]++(M)))))) w80;have f75:=f75.chg hc83 o1 o2 p_i75_i10 (fun _ h=>ml h);have hBg4:=hBg4.chg hc83 ((fun x (hx:x∈[g4]) (hy:x∈[g8])=>p_i10_i6 x hy hx) g4 (by simp));have hM:=hM.chg hc83;have hC:=hC.t1 hc83 e_i10;refine hK79 _ _ ?_;refine wrt ?_;have fz:=f75.toRSl (M':=[g20]++([g13]++([g8]++([g4]++(M))))) (fun _ h=>.inl (mr (h))) (fun x hx hm=>(List.mem_append.1 hm).elim (fun h=>p_i75_i21 x hx h) (fun h=>(List.mem_append.1 h).elim (fun h=>p_i75_i15 x hx h) (fun h=>(List.mem_append.1 h).elim (fun h=>p_i75_i10 x hx h) (fun h=>(List.mem_append.1 h).elim (fun h=>p_i75_i6 x hx h) (fun h=>p_i75_M x hx h)))));have hM:MS ([g20]++([g13]++([g8]++([g4]++(M))))) w82:=hM.sb fun _ h=>mr (h);have f75:=fz;have o1:=oN ([g20]++([g13]++([g8]++([g4]++(M))))) w82;have o2:Ok (blkL none++(M)) ([g20]++([g13]++([g8]++([g4]++(M))))) w82.heap.size:=(Ok.app (fun _ h=>nomatch h) (fun _ h=>.inl (mr (mr (mr (mr (h)))))))
     have f75:=f75.chg (Chg.refl [] _) o1 o2;have e_z84:∀ x∈blkL none,w.heap.size≤x:=fun x hx=>Nat.le_trans hC.size ((fun _ h=>nomatch h) x hx);have hM:MS (blkL none++(M)) w82:=(MS.app (fun _ h=>nomatch h) (fun x h=>hM.chg (Chg.refl [] _) x (mr (mr (mr (mr (h)))))))
     obtain rfl:=oj H;refine rtr ha (res3 rfl (roA ha rfl hBg4 (by kernel_rfl)) (roT ha rfl) (roA ha rfl hBg8 (by kernel_rfl))) ?_;exact ⟨none,0,none,0,none,0,none,0,none,0,none,0,none,0,ao75,cap75,none,0,rfl,(RSl.nil (Nat.zero_le _)),(RSl.nil (Nat.zero_le _)),(RSl.nil (Nat.zero_le _)),(RSl.nil (Nat.zero_le _)),(RSl.nil (Nat.zero_le _)),(RSl.nil (Nat.zero_le _)),(RSl.nil (Nat.zero_le _)),f75,Own.nil,e_z84,hC,hM⟩
   ·refine sqd ha 2 [56] [(81,.bool (a0==(4:Int)))] fun a ha=>?_;refine cnH H ha (fun hc86 H=>?_) (fun hc86 H=>?_)
    ·refine wsr fun K87 hK87=>?_;refine ldE (Box.cells hBg13) ha fun a ha=>?_;refine oP (.agg (cS_api_Note (⟨(0:Int),(0:Int),([]:List Int)⟩:S_api_Note) none 0).toArray) ha fun a ha=>?_;refine stE (cS_api_Message (⟨a0,(⟨(0:Int),(0:Int),(⟨(0:Int),(List.replicate 16 (0:Int))⟩:S_api_Addr),([]:List S_api_Family),false⟩:S_api_Open),(⟨(⟨(0:Int),([]:List S_api_Segment),(0:Int),(0:Int),(⟨(0:Int),(List.replicate 16 (0:Int))⟩:S_api_Addr),([]:List S_api_Addr),([]:List (List Int)),([]:List S_api_Tunnel)⟩:S_api_Attrs),([]:List S_api_Table),([]:List S_api_Table)⟩:S_api_Update),(⟨(0:Int),(0:Int),([]:List Int)⟩:S_api_Note),(⟨(0:Int),(0:Int)⟩:S_api_Family)⟩:S_api_Message) none 0 none 0 none 0 none 0 none 0 none 0 none 0 none 0) ha hBg4 fun a w88 ha hBg4 hc89 _=>?_;have o1:Ok [g4] ([g20]++([g13]++([g8]++([g4]++(M))))) w19.heap.size:=(fun _ h=>.inl (mr (mr (mr (ml h)))))
     have o2:=oR ([g20]++([g13]++([g8]++([g4]++(M))))) w19;have f22:=f22.chg hc89 o1 o2;have hBg8:=hBg8.chg hc89 (p_i10_i6 g8 (by simp));have hBg13:=hBg13.chg hc89 (p_i15_i6 g13 (by simp));have hBg20:=hBg20.chg hc89 (p_i21_i6 g20 (by simp));have hM:=hM.chg hc89;have hC:=hC.t1 hc89 e_i6;refine sd ha 1 [1,7,8,20,81] [(5,.int .i64 0),(84,.agg (cS_api_Note (⟨(0:Int),(0:Int),([]:List Int)⟩:S_api_Note) none 0).toArray)] fun a ha=>?_;refine stE (cS_api_Note (⟨(0:Int),(0:Int),([]:List Int)⟩:S_api_Note) none 0) ha hBg8 fun a w90 ha hBg8 hc91 _=>?_;have o1:Ok [g8] ([g20]++([g13]++([g8]++([g4]++(M))))) w88.heap.size:=(fun _ h=>.inl (mr (mr (ml h))))
     have o2:=oR ([g20]++([g13]++([g8]++([g4]++(M))))) w88;have f22:=f22.chg hc91 o1 o2;have hBg4:=hBg4.chg hc91 ((fun x (hx:x∈[g4]) (hy:x∈[g8])=>p_i10_i6 x hy hx) g4 (by simp));have hBg13:=hBg13.chg hc91 (p_i15_i10 g13 (by simp));have hBg20:=hBg20.chg hc91 (p_i21_i10 g20 (by simp));have hM:=hM.chg hc91;have hC:=hC.t1 hc91 e_i10;refine hK87 _ _ ?_;refine wrt ?_;have o1:=oN ([g20]++([g13]++([g8]++([g4]++(M))))) w90;have o2:Ok (blkL none++(M)) ([g20]++([g13]++([g8]++([g4]++(M))))) w90.heap.size:=(Ok.app (fun _ h=>nomatch h) (fun _ h=>.inl (mr (mr (mr (mr (h)))))))
     have f22:=f22.chg (Chg.refl [] _) o1 o2;have e_z92:∀ x∈blkL none,w.heap.size≤x:=fun x hx=>Nat.le_trans hC.size ((fun _ h=>nomatch h) x hx);have hM:MS (blkL none++(M)) w90:=(MS.app (fun _ h=>nomatch h) (fun x h=>hM.chg (Chg.refl [] _) x (mr (mr (mr (mr (h)))))))
     obtain rfl:=oj H;refine rtr ha (res3 rfl (roA ha rfl hBg4 (by kernel_rfl)) (roT ha rfl) (roA ha rfl hBg8 (by kernel_rfl))) ?_;exact ⟨none,0,none,0,none,0,none,0,none,0,none,0,none,0,none,0,none,0,rfl,(RSl.nil (Nat.zero_le _)),(RSl.nil (Nat.zero_le _)),(RSl.nil (Nat.zero_le _)),(RSl.nil (Nat.zero_le _)),(RSl.nil (Nat.zero_le _)),(RSl.nil (Nat.zero_le _)),(RSl.nil (Nat.zero_le _)),(RSl.nil (Nat.zero_le _)),Own.nil,e_z92,hC,hM⟩
    ·refine sqd ha 2 [20,81] [(85,.bool (a0==(5:Int)))] fun a ha=>?_;refine cnH H ha (fun hc94 H=>?_) (fun hc94 H=>?_)
     ·refine wsr fun K95 hK95=>?_;refine sd ha 1 [8,85] [(87,pt g20 0)] fun a ha=>?_;obtain ⟨t96,H96,H⟩:=bind_some H;refine cL ha (message_readFamily.walk w19 _ hM g20 t19 ao22 cap22 f22 hBg20 (ml (List.mem_singleton.2 rfl)) k _ H96) ?_;rintro _ w96 ⟨ao97,cap97,rfl,f97,qhBg20,hc96,hMn⟩ a ha;have hBg4:=hBg4.chg hc96 ((fun x (hx:x∈[g4]) (hy:x∈[g20])=>p_i21_i6 x hy hx) g4 (by simp));have hBg8:=hBg8.chg hc96 ((fun x (hx:x∈[g8]) (hy:x∈[g20])=>p_i21_i10 x hy hx) g8 (by simp));have hBg13:=hBg13.chg hc96 ((fun x (hx:x∈[g13]) (hy:x∈[g20])=>p_i21_i15 x hy hx) g13 (by simp));have hM:=hM.chg hc96;have hC:=hC.t1 hc96 e_i21;have hBg20:=qhBg20;refine alE (cS_api_Family (⟨(0:Int),(0:Int)⟩:S_api_Family)) ha fun a w98 g99 hN100 ha=>?_;have o1:=oN ([g20]++([g13]++([g8]++([g4]++(M))))) w96;have o2:=oA hN100 ([g20]++([g13]++([g8]++([g4]++(M)))));have f97:=f97.chg hN100.chg o1 o2;have hBg4:=hBg4.c0 hN100.chg;have hBg8:=hBg8.c0 hN100.chg;have hBg13:=hBg13.c0 hN100.chg;have hBg20:=hBg20.c0 hN100.chg;have p_i101_i21:=pn (B:=[g20]) hM (hN100.ge1) fun _ hy=>ml hy;have p_i101_i15:=pn (B:=[g13]) hM (hN100.ge1) fun _ hy=>mr (ml hy);have p_i101_i10:=pn (B:=[g8]) hM (hN100.ge1) fun _ hy=>mr (mr (ml hy));have p_i101_i6:=pn (B:=[g4]) hM (hN100.ge1) fun _ hy=>mr (mr (mr (ml hy)));have e_i101:=eN hC (hN100.ge1);have hM:=MS.app hN100.ms (hM.chg hN100.chg);have hC:=hC.t0 hN100.chg;have hBg99:=hN100.box;refine stE (cS_api_Family t96.1) ha hBg99 fun a w102 ha hBg99 hc103 _=>?_;have o1:Ok [g99] ([g99]++([g20]++([g13]++([g8]++([g4]++(M)))))) w98.heap.size:=(fun _ h=>.inl (ml h))
      have o2:=oR ([g99]++([g20]++([g13]++([g8]++([g4]++(M)))))) w98;have f97:=f97.chg hc103 o1 o2;have hBg4:=hBg4.chg hc103 ((fun x (hx:x∈[g4]) (hy:x∈[g99])=>p_i101_i6 x hy hx) g4 (by simp));have hBg8:=hBg8.chg hc103 ((fun x (hx:x∈[g8]) (hy:x∈[g99])=>p_i101_i10 x hy hx) g8 (by simp));have hBg13:=hBg13.chg hc103 ((fun x (hx:x∈[g13]) (hy:x∈[g99])=>p_i101_i15 x hy hx) g13 (by simp));have hBg20:=hBg20.chg hc103 ((fun x (hx:x∈[g20]) (hy:x∈[g99])=>p_i101_i21 x hy hx) g20 (by simp));have hM:=hM.chg hc103;have hC:=hC.t1 hc103 e_i101;refine hK95 _ _ ?_;refine wp_seq_k fun K104 hK104=>?_;refine wsr fun K105 hK105=>?_;obtain ⟨s106,H106,H⟩:=bind_some H;have J106:∀ (a:Act) (w106:World),Has a Tryz.f13.ntmps [(4,pt g4 0),(6,pt g8 0),(7,pt g13 0),(15,pt g99 0),(96,.bool s106)]→(RSl (rInt .u8) 5 w106 ([g99]++([g20]++([g13]++([g8]++([g4]++(M)))))) ao97 cap97 t96.2.rest.left)→(Box w106 g4 (cS_api_Message (⟨(0:Int),(⟨(0:Int),(0:Int),(⟨(0:Int),(List.replicate 16 (0:Int))⟩:S_api_Addr),([]:List S_api_Family),false⟩:S_api_Open),(⟨(⟨(0:Int),([]:List S_api_Segment),(0:Int),(0:Int),(⟨(0:Int),(List.replicate 16 (0:Int))⟩:S_api_Addr),([]:List S_api_Addr),([]:List (List Int)),([]:List S_api_Tunnel)⟩:S_api_Attrs),([]:List S_api_Table),([]:List S_api_Table)⟩:S_api_Update),(⟨(0:Int),(0:Int),([]:List Int)⟩:S_api_Note),(⟨(0:Int),(0:Int)⟩:S_api_Family)⟩:S_api_Message) none 0 none 0 none 0 none 0 none 0 none 0 none 0 none 0))→(Box w106 g8 (cS_api_Note (⟨(0:Int),(0:Int),([]:List Int)⟩:S_api_Note) none 0))→(Box w106 g13 (cS_api_Message (⟨a0,(⟨(0:Int),(0:Int),(⟨(0:Int),(List.replicate 16 (0:Int))⟩:S_api_Addr),([]:List S_api_Family),false⟩:S_api_Open),(⟨(⟨(0:Int),([]:List S_api_Segment),(0:Int),(0:Int),(⟨(0:Int),(List.replicate 16 (0:Int))⟩:S_api_Addr),([]:List S_api_Addr),([]:List (List Int)),([]:List S_api_Tunnel)⟩:S_api_Attrs),([]:List S_api_Table),([]:List S_api_Table)⟩:S_api_Update),(⟨(0:Int),(0:Int),([]:List Int)⟩:S_api_Note),(⟨(0:Int),(0:Int)⟩:S_api_Family)⟩:S_api_Message) none 0 none 0 none 0 none 0 none 0 none 0 none 0 none 0))→(Box w106 g20 (cS_cursor_Reader t96.2 ao97 cap97))→(Box w106 g99 (cS_api_Family t96.1))→(Chg [] w w106)→(MS ([g99]++([g20]++([g13]++([g8]++([g4]++(M)))))) w106)→K105 a w106:=by
       intro a w106 ha f97 hBg4 hBg8 hBg13 hBg20 hBg99 hC hM;refine hK105 _ _ ?_;refine cnH H ha (fun hc107 H=>?_) (fun hc107 H=>?_)
       ·refine wsr fun K108 hK108=>?_;refine ldE (Box.cells hBg13) ha fun a ha=>?_;refine oP (.agg (cS_api_Note (⟨(0:Int),(0:Int),([]:List Int)⟩:S_api_Note) none 0).toArray) ha fun a ha=>?_;refine stE (cS_api_Message (⟨a0,(⟨(0:Int),(0:Int),(⟨(0:Int),(List.replicate 16 (0:Int))⟩:S_api_Addr),([]:List S_api_Family),false⟩:S_api_Open),(⟨(⟨(0:Int),([]:List S_api_Segment),(0:Int),(0:Int),(⟨(0:Int),(List.replicate 16 (0:Int))⟩:S_api_Addr),([]:List S_api_Addr),([]:List (List Int)),([]:List S_api_Tunnel)⟩:S_api_Attrs),([]:List S_api_Table),([]:List S_api_Table)⟩:S_api_Update),(⟨(0:Int),(0:Int),([]:List Int)⟩:S_api_Note),(⟨(0:Int),(0:Int)⟩:S_api_Family)⟩:S_api_Message) none 0 none 0 none 0 none 0 none 0 none 0 none 0 none 0) ha hBg4 fun a w109 ha hBg4 hc110 _=>?_;have hBg8:=hBg8.chg hc110 (p_i10_i6 g8 (by simp));have hBg13:=hBg13.chg hc110 (p_i15_i6 g13 (by simp));have hBg99:=hBg99.chg hc110 (p_i101_i6 g99 (by simp));have hM:=hM.chg hc110;have hC:=hC.t1 hc110 e_i6;refine sd ha 1 [7,15,96] [(5,.int .i64 1),(98,.agg (cS_api_Note (⟨(0:Int),(0:Int),([]:List Int)⟩:S_api_Note) none 0).toArray)] fun a ha=>?_;refine stE (cS_api_Note (⟨(0:Int),(0:Int),([]:List Int)⟩:S_api_Note) none 0) ha hBg8 fun a w111 ha hBg8 hc112 _=>?_;have hBg4:=hBg4.chg hc112 ((fun x (hx:x∈[g4]) (hy:x∈[g8])=>p_i10_i6 x hy hx) g4 (by simp));have hBg13:=hBg13.chg hc112 (p_i15_i10 g13 (by simp));have hBg99:=hBg99.chg hc112 (p_i101_i10 g99 (by simp));have hM:=hM.chg hc112;have hC:=hC.t1 hc112 e_i10;refine hK108 _ _ ?_;refine wrt ?_;have e_z113:∀ x∈blkL none,w.heap.size≤x:=fun x hx=>Nat.le_trans hC.size ((fun _ h=>nomatch h) x hx);have hM:MS (blkL none++(M)) w111:=(MS.app (fun _ h=>nomatch h) (fun x h=>hM.chg (Chg.refl [] _) x (mr (mr (mr (mr (mr (h))))))))
        obtain rfl:=oj H;refine rtr ha (res3 rfl (roA ha rfl hBg4 (by kernel_rfl)) (roT ha rfl) (roA ha rfl hBg8 (by kernel_rfl))) ?_;exact ⟨none,0,none,0,none,0,none,0,none,0,none,0,none,0,none,0,none,0,rfl,(RSl.nil (Nat.zero_le _)),(RSl.nil (Nat.zero_le _)),(RSl.nil (Nat.zero_le _)),(RSl.nil (Nat.zero_le _)),(RSl.nil (Nat.zero_le _)),(RSl.nil (Nat.zero_le _)),(RSl.nil (Nat.zero_le _)),(RSl.nil (Nat.zero_le _)),Own.nil,e_z113,hC,hM⟩
       ·refine wp_skip ?_;refine hK104 _ _ ?_;refine wsr fun K114 hK114=>?_;refine ldE (Box.cells hBg99) ha fun a ha=>?_;refine sd ha 1 [15,96] [(99,.agg (cS_api_Family t96.1).toArray),(100,pt g13 51)] fun a ha=>?_;refine stA (l:=(cS_api_Family t96.1)) ha rfl rfl rfl (by kernel_rfl) rfl rfl hBg13 rfl fun a w115 ha hb2 hc116 _=>?_;have hBg4:=hBg4.chg hc116 ((fun x (hx:x∈[g4]) (hy:x∈[g13])=>p_i15_i6 x hy hx) g4 (by simp));have hBg8:=hBg8.chg hc116 ((fun x (hx:x∈[g8]) (hy:x∈[g13])=>p_i15_i10 x hy hx) g8 (by simp));have hM:=hM.chg hc116;have hC:=hC.t1 hc116 e_i15;have hBg13:Box w115 g13 (cS_api_Message (⟨a0,(⟨(0:Int),(0:Int),(⟨(0:Int),(List.replicate 16 (0:Int))⟩:S_api_Addr),([]:List S_api_Family),false⟩:S_api_Open),(⟨(⟨(0:Int),([]:List S_api_Segment),(0:Int),(0:Int),(⟨(0:Int),(List.replicate 16 (0:Int))⟩:S_api_Addr),([]:List S_api_Addr),([]:List (List Int)),([]:List S_api_Tunnel)⟩:S_api_Attrs),([]:List S_api_Table),([]:List S_api_Table)⟩:S_api_Update),(⟨(0:Int),(0:Int),([]:List Int)⟩:S_api_Note),t96.1⟩:S_api_Message) none 0 none 0 none 0 none 0 none 0 none 0 none 0 none 0):=hb2;refine hK114 _ _ ?_;refine wsr fun K117 hK117=>?_;refine ldE (Box.cells hBg13) ha fun a ha=>?_;refine oP (.agg (cS_api_Note (⟨(0:Int),(0:Int),([]:List Int)⟩:S_api_Note) none 0).toArray) ha fun a ha=>?_;refine stE (cS_api_Message (⟨a0,(⟨(0:Int),(0:Int),(⟨(0:Int),(List.replicate 16 (0:Int))⟩:S_api_Addr),([]:List S_api_Family),false⟩:S_api_Open),(⟨(⟨(0:Int),([]:List S_api_Segment),(0:Int),(0:Int),(⟨(0:Int),(List.replicate 16 (0:Int))⟩:S_api_Addr),([]:List S_api_Addr),([]:List (List Int)),([]:List S_api_Tunnel)⟩:S_api_Attrs),([]:List S_api_Table),([]:List S_api_Table)⟩:S_api_Update),(⟨(0:Int),(0:Int),([]:List Int)⟩:S_api_Note),t96.1⟩:S_api_Message) none 0 none 0 none 0 none 0 none 0 none 0 none 0 none 0) ha hBg4 fun a w118 ha hBg4 hc119 _=>?_;have hBg8:=hBg8.chg hc119 (p_i10_i6 g8 (by simp));have hM:=hM.chg hc119;have hC:=hC.t1 hc119 e_i6;refine sd ha 1 [7,99,100] [(5,.int .i64 0),(102,.agg (cS_api_Note (⟨(0:Int),(0:Int),([]:List Int)⟩:S_api_Note) none 0).toArray)] fun a ha=>?_;refine stE (cS_api_Note (⟨(0:Int),(0:Int),([]:List Int)⟩:S_api_Note) none 0) ha hBg8 fun a w120 ha hBg8 hc121 _=>?_;have hBg4:=hBg4.chg hc121 ((fun x (hx:x∈[g4]) (hy:x∈[g8])=>p_i10_i6 x hy hx) g4 (by simp));have hM:=hM.chg hc121;have hC:=hC.t1 hc121 e_i10;refine hK117 _ _ ?_;refine wrt ?_;have e_z122:∀ x∈blkL none,w.heap.size≤x:=fun x hx=>Nat.le_trans hC.size ((fun _ h=>nomatch h) x hx);have hM:MS (blkL none++(M)) w120:=(MS.app (fun _ h=>nomatch h) (fun x h=>hM.chg (Chg.refl [] _) x (mr (mr (mr (mr (mr (h))))))))
        obtain rfl:=oj H;refine rtr ha (res3 rfl (roA ha rfl hBg4 (by kernel_rfl)) (roT ha rfl) (roA ha rfl hBg8 (by kernel_rfl))) ?_;exact ⟨none,0,none,0,none,0,none,0,none,0,none,0,none,0,none,0,none,0,rfl,(RSl.nil (Nat.zero_le _)),(RSl.nil (Nat.zero_le _)),(RSl.nil (Nat.zero_le _)),(RSl.nil (Nat.zero_le _)),(RSl.nil (Nat.zero_le _)),(RSl.nil (Nat.zero_le _)),(RSl.nil (Nat.zero_le _)),(RSl.nil (Nat.zero_le _)),Own.nil,e_z122,hC,hM⟩
      have H:=H106;refine sd ha 4 [1,87] [(92,.bool ((a1.length:Int) != (4:Int))),(15,pt g99 0)] fun a ha=>?_;rcases Bool.eq_false_or_eq_true ((a1.length:Int) != (4:Int)) with hb123 | hb123
      ·have ha:=ha.lit hb123;have H:=ite_t hb123 H;refine sgd ha 4 [1,1,1,3] [92] [(96,.bool true)] fun a ha=>?_;obtain rfl:=oj H;exact J106 _ _ (ha.sel (by kernel_rfl)) f97 hBg4 hBg8 hBg13 hBg20 hBg99 hC hM
      ·have ha:=ha.lit hb123;have H:=ite_f hb123 H;refine ldE (Box.cells hBg99) ha fun a ha=>?_;obtain ⟨t124,H124,H⟩:=bind_some H;refine cL ha (message_known.walk w102 _ hM t96.1 _ H124) ?_;rintro _ w124 ⟨rfl,hc124,hMn⟩ a ha;have o1:=oN ([g99]++([g20]++([g13]++([g8]++([g4]++(M)))))) w102;have o2:=oR ([g99]++([g20]++([g13]++([g8]++([g4]++(M)))))) w102;have f97:=f97.chg hc124 o1 o2;have hBg4:=hBg4.c0 hc124;have hBg8:=hBg8.c0 hc124;have hBg13:=hBg13.c0 hc124;have hBg20:=hBg20.c0 hc124;have hBg99:=hBg99.c0 hc124;have hM:=hM.chg hc124;have hC:=hC.t0 hc124;refine sgd ha 2 [2,4] [92] [(96,.bool (!t124))] fun a ha=>?_;obtain rfl:=oj H;exact J106 _ _ (ha.sel (by kernel_rfl)) f97 hBg4 hBg8 hBg13 hBg20 hBg99 hC hM
     ·refine wp_skip ?_;refine hK23 _ _ ?_;refine wsr fun K125 hK125=>?_;refine oP (.agg (cS_api_Message (⟨(0:Int),(⟨(0:Int),(0:Int),(⟨(0:Int),(List.replicate 16 (0:Int))⟩:S_api_Addr),([]:List S_api_Family),false⟩:S_api_Open),(⟨(⟨(0:Int),([]:List S_api_Segment),(0:Int),(0:Int),(⟨(0:Int),(List.replicate 16 (0:Int))⟩:S_api_Addr),([]:List S_api_Addr),([]:List (List Int)),([]:List S_api_Tunnel)⟩:S_api_Attrs),([]:List S_api_Table),([]:List S_api_Table)⟩:S_api_Update),(⟨(0:Int),(0:Int),([]:List Int)⟩:S_api_Note),(⟨(0:Int),(0:Int)⟩:S_api_Family)⟩:S_api_Message) none 0 none 0 none 0 none 0 none 0 none 0 none 0 none 0).toArray) ha fun a ha=>?_;refine oP (.agg (cS_api_Note (⟨(1:Int),(3:Int),([]:List Int)⟩:S_api_Note) none 0).toArray) ha fun a ha=>?_;refine stE (cS_api_Message (⟨(0:Int),(⟨(0:Int),(0:Int),(⟨(0:Int),(List.replicate 16 (0:Int))⟩:S_api_Addr),([]:List S_api_Family),false⟩:S_api_Open),(⟨(⟨(0:Int),([]:List S_api_Segment),(0:Int),(0:Int),(⟨(0:Int),(List.replicate 16 (0:Int))⟩:S_api_Addr),([]:List S_api_Addr),([]:List (List Int)),([]:List S_api_Tunnel)⟩:S_api_Attrs),([]:List S_api_Table),([]:List S_api_Table)⟩:S_api_Update),(⟨(0:Int),(0:Int),([]:List Int)⟩:S_api_Note),(⟨(0:Int),(0:Int)⟩:S_api_Family)⟩:S_api_Message) none 0 none 0 none 0 none 0 none 0 none 0 none 0 none 0) ha hBg4 fun a w126 ha hBg4 hc127 _=>?_;have hBg8:=hBg8.chg hc127 (p_i10_i6 g8 (by simp));have hM:=hM.chg hc127;have hC:=hC.t1 hc127 e_i6;refine sd ha 1 [1,7,8,85] [(5,.int .i64 3),(104,.agg (cS_api_Note (⟨(1:Int),(3:Int),([]:List Int)⟩:S_api_Note) none 0).toArray)] fun a ha=>?_;refine stE (cS_api_Note (⟨(1:Int),(3:Int),([]:List Int)⟩:S_api_Note) none 0) ha hBg8 fun a w128 ha hBg8 hc129 _=>?_;have hBg4:=hBg4.chg hc129 ((fun x (hx:x∈[g4]) (hy:x∈[g8])=>p_i10_i6 x hy hx) g4 (by simp));have hM:=hM.chg hc129;have hC:=hC.t1 hc129 e_i10;refine hK125 _ _ ?_;refine wrt ?_;have e_z130:∀ x∈blkL none,w.heap.size≤x:=fun x hx=>Nat.le_trans hC.size ((fun _ h=>nomatch h) x hx);have hM:MS (blkL none++(M)) w128:=(MS.app (fun _ h=>nomatch h) (fun x h=>hM.chg (Chg.refl [] _) x (mr (mr (mr (mr (h)))))))
      obtain rfl:=oj H;refine rtr ha (res3 rfl (roA ha rfl hBg4 (by kernel_rfl)) (roT ha rfl) (roA ha rfl hBg8 (by kernel_rfl))) ?_;exact ⟨none,0,none,0,none,0,none,0,none,0,none,0,none,0,none,0,none,0,rfl,(RSl.nil (Nat.zero_le _)),(RSl.nil (Nat.zero_le _)),(RSl.nil (Nat.zero_le _)),(RSl.nil (Nat.zero_le _)),(RSl.nil (Nat.zero_le _)),(RSl.nil (Nat.zero_le _)),(RSl.nil (Nat.zero_le _)),(RSl.nil (Nat.zero_le _)),Own.nil,e_z130,hC,hM⟩
def vinerylaw11_small.f (k:Nat):Option (Bool):=(vinerylaw07_V4.f (10:Int) (0:Int) (0:Int) (1:Int)).bind fun t3=>(message_Bytes.f k (⟨(1:Int),(⟨(65000:Int),(90:Int),t3,([(⟨(4:Int),(5:Int)⟩:S_api_Family)]:List S_api_Family),false⟩:S_api_Open),(⟨(⟨(0:Int),([]:List S_api_Segment),(0:Int),(0:Int),(⟨(0:Int),(List.replicate 16 (0:Int))⟩:S_api_Addr),([]:List S_api_Addr),([]:List (List Int)),([]:List S_api_Tunnel)⟩:S_api_Attrs),([]:List S_api_Table),([]:List S_api_Table)⟩:S_api_Update),(⟨(0:Int),(0:Int),([]:List Int)⟩:S_api_Note),(⟨(0:Int),(0:Int)⟩:S_api_Family)⟩:S_api_Message)).bind fun t16=>(if (if (t16.2 != (0:Int))=true then true else ((t16.1.length:Int) != (43:Int)))=true then some ((false:Bool)) else (message_Head.f k t16.1).bind fun t23=>(if 0≤(19:Int)∧(19:Int)≤(t16.1.length:Int)∧(t16.1.length:Int)≤(t16.1.length:Int) then (message_Body.f k t23.1 ((t16.1.take (Int.toNat (t16.1.length:Int))).drop (Int.toNat (19:Int)))).bind fun t34=>((if 0≤(16:Int)∧(16:Int)≤(t16.1.length:Int)∧(t16.1.length:Int)≤(t16.1.length:Int) then (if ((bstr (b2s ((t16.1.take (Int.toNat (t16.1.length:Int))).drop (Int.toNat (16:Int))))).toList==(bstr ([0,43,1,4,253,232,0,90,10,0,0,1,14,2,12,1,4,0,1,0,5,65,4,0,0,253,232]:List UInt8)).toList)=true then (if (t23.2.2.2==(0:Int))=true then (if (t23.1==(1:Int))=true then (if (t23.2.1==(24:Int))=true then (if (t23.2.2.1.Code==(0:Int))=true then (if (t34.2.1==(0:Int))=true then (if (t34.2.2.Code==(0:Int))=true then (message_Same.f k t34.1 (⟨(1:Int),(⟨(65000:Int),(90:Int),t3,([(⟨(4:Int),(5:Int)⟩:S_api_Family)]:List S_api_Family),false⟩:S_api_Open),(⟨(⟨(0:Int),([]:List S_api_Segment),(0:Int),(0:Int),(⟨(0:Int),(List.replicate 16 (0:Int))⟩:S_api_Addr),([]:List S_api_Addr),([]:List (List Int)),([]:List S_api_Tunnel)⟩:S_api_Attrs),([]:List S_api_Table),([]:List S_api_Table)⟩:S_api_Update),(⟨(0:Int),(0:Int),([]:List Int)⟩:S_api_Note),(⟨(0:Int),(0:Int)⟩:S_api_Family)⟩:S_api_Message)).bind fun t67=>some (t67:Bool) else some (false:Bool)) else some (false:Bool)) else some (false:Bool)) else some (false:Bool)) else some (false:Bool)) else some (false:Bool)) else some (false:Bool)) else none)).bind fun s57=>some ((s57:Bool)) else none))
set_option maxRecDepth 100000 in
theorem vinerylaw11_small.walk (w:World) (M:List Nat) (hM:MS M w)  (k:Nat) (r:Bool) (H:vinerylaw11_small.f k=some r) :
    To Tryz.prog 4 [] w fun v w'=>v=.bool r∧Chg [] w w'∧MS (M) w':=by
 unfold vinerylaw11_small.f at H;refine ent Tryz.func4 rfl [] rfl (by rfl) fun a ha=>?_;have hC:Chg [] w w:=Chg.refl _ _;refine sq ha 1 [] fun a ha=>?_;refine wsr fun K2 hK2=>?_;obtain ⟨t3,H3,H⟩:=bind_some H;refine cL ha (vinerylaw07_V4.walk w _ hM (10:Int) (0:Int) (0:Int) (1:Int) _ H3) ?_;rintro _ w3 ⟨rfl,hc3,hMn⟩ a ha;have hM:=hM.chg hc3;have hC:=hC.t0 hc3;refine oP (.agg (cS_api_Family (⟨(4:Int),(5:Int)⟩:S_api_Family)).toArray) ha fun a ha=>?_;refine bslA (vals:=([.agg (cS_api_Family (⟨(4:Int),(5:Int)⟩:S_api_Family)).toArray]:List Value)) (T:=40) (z:=.agg (cS_api_Family (⟨(0:Int),(0:Int)⟩:S_api_Family)).toArray) ha rfl (by kernel_rfl) rfl (by kernel_rfl) (s:=2) (by kernel_rfl) rfl rfl (fun w=>by kernel_rfl) (by kernel_rfl) rfl rfl rfl fun a w4 g5 hN6 ha=>?_;have hN6:=(show New _ _ _ (.cells (((cS_api_Family (⟨(4:Int),(5:Int)⟩:S_api_Family))++([]:List Value))).toArray 40 (0,0)) from hN6)
 have p_i7_M:=pn (B:=M) hM (hN6.ge1) fun _ hy=>hy;have hM:=MS.app hN6.ms (hM.chg hN6.chg);have hC:=hC.t0 hN6.chg;have f8:Own rS_api_Family 40 w4 ([g5]++(M)) (some ⟨g5,0,none⟩) 1 ([(⟨(4:Int),(5:Int)⟩:S_api_Family)]:List S_api_Family):=hN6.own ⟨(cS_api_Family (⟨(4:Int),(5:Int)⟩:S_api_Family)),_,rfl,(rS_api_Family.mk (⟨(4:Int),(5:Int)⟩:S_api_Family)),rfl⟩ (Nat.le_of_ble_eq_true rfl);refine oP (.agg (cS_api_Open (⟨(65000:Int),(90:Int),t3,([(⟨(4:Int),(5:Int)⟩:S_api_Family)]:List S_api_Family),false⟩:S_api_Open) (some ⟨g5,0,none⟩) 1).toArray) ha fun a ha=>?_;refine oP (.agg (cS_api_Message (⟨(1:Int),(⟨(65000:Int),(90:Int),t3,([(⟨(4:Int),(5:Int)⟩:S_api_Family)]:List S_api_Family),false⟩:S_api_Open),(⟨(⟨(0:Int),([]:List S_api_Segment),(0:Int),(0:Int),(⟨(0:Int),(List.replicate 16 (0:Int))⟩:S_api_Addr),([]:List S_api_Addr),([]:List (List Int)),([]:List S_api_Tunnel)⟩:S_api_Attrs),([]:List S_api_Table),([]:List S_api_Table)⟩:S_api_Update),(⟨(0:Int),(0:Int),([]:List Int)⟩:S_api_Note),(⟨(0:Int),(0:Int)⟩:S_api_Family)⟩:S_api_Message) (some ⟨g5,0,none⟩) 1 none 0 none 0 none 0 none 0 none 0 none 0 none 0).toArray) ha fun a ha=>?_;refine alE (cS_api_Message (⟨(0:Int),(⟨(0:Int),(0:Int),(⟨(0:Int),(List.replicate 16 (0:Int))⟩:S_api_Addr),([]:List S_api_Family),false⟩:S_api_Open),(⟨(⟨(0:Int),([]:List S_api_Segment),(0:Int),(0:Int),(⟨(0:Int),(List.replicate 16 (0:Int))⟩:S_api_Addr),([]:List S_api_Addr),([]:List (List Int)),([]:List S_api_Tunnel)⟩:S_api_Attrs),([]:List S_api_Table),([]:List S_api_Table)⟩:S_api_Update),(⟨(0:Int),(0:Int),([]:List Int)⟩:S_api_Note),(⟨(0:Int),(0:Int)⟩:S_api_Family)⟩:S_api_Message) none 0 none 0 none 0 none 0 none 0 none 0 none 0 none 0) ha fun a w9 g10 hN11 ha=>?_;have o1:=oN ([g5]++(M)) w4;have o2:=oA hN11 ([g5]++(M));have f8:=f8.chg hN11.chg o1 o2 (fun _ _ h=>nomatch h) (fun _ h=>mr (ml h));have p_i12_i7:=pn (B:=[g5]) hM (hN11.ge1) fun _ hy=>ml hy;have e_i12:=eN hC (hN11.ge1);have hM:=MS.app hN11.ms (hM.chg hN11.chg);have hC:=hC.t0 hN11.chg;have hBg10:=hN11.box;refine stE (cS_api_Message (⟨(1:Int),(⟨(65000:Int),(90:Int),t3,([(⟨(4:Int),(5:Int)⟩:S_api_Family)]:List S_api_Family),false⟩:S_api_Open),(⟨(⟨(0:Int),([]:List S_api_Segment),(0:Int),(0:Int),(⟨(0:Int),(List.replicate 16 (0:Int))⟩:S_api_Addr),([]:List S_api_Addr),([]:List (List Int)),([]:List S_api_Tunnel)⟩:S_api_Attrs),([]:List S_api_Table),([]:List S_api_Table)⟩:S_api_Update),(⟨(0:Int),(0:Int),([]:List Int)⟩:S_api_Note),(⟨(0:Int),(0:Int)⟩:S_api_Family)⟩:S_api_Message) (some ⟨g5,0,none⟩) 1 none 0 none 0 none 0 none 0 none 0 none 0 none 0) ha hBg10 fun a w13 ha hBg10 hc14 _=>?_;have o1:Ok [g10] ([g10]++([g5]++(M))) w9.heap.size:=(fun _ h=>.inl (ml h))
 have o2:=oR ([g10]++([g5]++(M))) w9;have f8:=f8.chg hc14 o1 o2 (fun x (hx:x∈[g5]) (hy:x∈[g10])=>p_i12_i7 x hy hx) (fun _ h=>mr (ml h));have hM:=hM.chg hc14;have hC:=hC.t1 hc14 e_i12;refine hK2 _ _ ?_;refine wsr fun K15 hK15=>?_;refine ldE (Box.cells hBg10) ha fun a ha=>?_;have hML:MS ([g10]++(M)) w13:=MS.rest hM (fun _ h=>(List.mem_append.1 h).elim (fun h=>ml h) (fun h=>mr (mr (h))));have oL:Ok ([g10]++(M)) ([g10]++([g5]++(M))) w13.heap.size:=(Ok.app (fun _ h=>.inl (ml h)) (fun _ h=>.inl (mr (mr (h)))))
 obtain ⟨t16,H16,H⟩:=bind_some H;refine cL ha (message_Bytes.walk w13 _ hML (⟨(1:Int),(⟨(65000:Int),(90:Int),t3,([(⟨(4:Int),(5:Int)⟩:S_api_Family)]:List S_api_Family),false⟩:S_api_Open),(⟨(⟨(0:Int),([]:List S_api_Segment),(0:Int),(0:Int),(⟨(0:Int),(List.replicate 16 (0:Int))⟩:S_api_Addr),([]:List S_api_Addr),([]:List (List Int)),([]:List S_api_Tunnel)⟩:S_api_Attrs),([]:List S_api_Table),([]:List S_api_Table)⟩:S_api_Update),(⟨(0:Int),(0:Int),([]:List Int)⟩:S_api_Note),(⟨(0:Int),(0:Int)⟩:S_api_Family)⟩:S_api_Message) (some ⟨g5,0,none⟩) 1 (Own.toRSl (M':=[g10]++(M)) f8 oL (fun x hx hm=>(List.mem_append.1 hm).elim (fun h=>(fun x hx hy=>p_i12_i7 x hy hx) x hx h) (fun h=>p_i7_M x hx h))) none 0 (RSl.nil (Nat.zero_le _)) none 0 (RSl.nil (Nat.zero_le _)) none 0 (RSl.nil (Nat.zero_le _)) none 0 (RSl.nil (Nat.zero_le _)) none 0 (RSl.nil (Nat.zero_le _)) none 0 (RSl.nil (Nat.zero_le _)) none 0 (RSl.nil (Nat.zero_le _)) k _ H16) ?_;rintro _ w16 ⟨ao17,cap17,rfl,f17,ne_i17,hc16,hMn⟩ a ha;have o1:=oN ([g10]++([g5]++(M))) w13;have o2:Ok (blkL ao17++([g10]++([g5]++(M)))) ([g10]++([g5]++(M))) w13.heap.size:=(Ok.app (fun x h=>.inr (ne_i17 x h)) (Ok.refl _ _))
 have f8:=f8.chg hc16 o1 o2 (fun _ _ h=>nomatch h) (fun _ h=>mr (mr (ml h)));have hBg10:=hBg10.c0 hc16;have p_i17_i12:=pn (B:=[g10]) hM ne_i17 fun _ hy=>ml hy;have p_i17_i7:=pn (B:=[g5]) hM ne_i17 fun _ hy=>mr (ml hy);have p_i17_M:=pn (B:=M) hM ne_i17 fun _ hy=>mr (mr (hy));have hM:MS (blkL ao17++([g10]++([g5]++(M)))) w16:=(MS.app (fun x h=>hMn x (ml h)) (hM.chg hc16))
 have hC:=hC.t0 hc16;have f17:=Own.re (M':=blkL ao17++([g10]++([g5]++(M)))) (fun _ _ _ _ _ h=>h) f17 (fun _ h=>ml h);refine sf ha 5 [(1,pt g10 0),(2,.slice ao17 t16.1.length cap17),(3,.int .i64 t16.2)] fun a ha=>?_;refine hK15 _ _ ?_;refine wp_seq_k fun K18 hK18=>?_;refine sqd ha 7 [3] [(27,.bool (if (t16.2 != (0:Int))=true then true else ((t16.1.length:Int) != (43:Int))))] fun a ha=>?_;refine cnH H ha (fun hc20 H=>?_) (fun hc20 H=>?_)
 ·refine sq ha 1 [(0,.bool false)] fun a ha=>?_;refine wrt ?_;have hM:MS M w16:=hM.sb fun _ h=>mr (mr (mr (h)));obtain rfl:=oj H;refine rt1 ha rfl rfl ?_;exact ⟨rfl,hC,hM⟩
 ·refine wp_skip ?_;refine hK18 _ _ ?_;refine wsr fun K22 hK22=>?_;refine sd ha 1 [27] [(29,.slice ao17 t16.1.length cap17)] fun a ha=>?_;have hML:MS ([g10]++([g5]++(M))) w16:=MS.rest hM (fun _ h=>(List.mem_append.1 h).elim (fun h=>mr (ml h)) (fun h=>(List.mem_append.1 h).elim (fun h=>mr (mr (ml h))) (fun h=>mr (mr (mr (h))))));have oL:Ok ([g10]++([g5]++(M))) (blkL ao17++([g10]++([g5]++(M)))) w16.heap.size:=(fun _ h=>.inl (mr (h)))
  obtain ⟨t23,H23,H⟩:=bind_some H;refine cL ha (message_Head.walk w16 _ hML t16.1 ao17 cap17 (Own.toRSl (M':=[g10]++([g5]++(M))) f17 oL (fun x hx hm=>(List.mem_append.1 hm).elim (fun h=>p_i17_i12 x hx h) (fun h=>(List.mem_append.1 h).elim (fun h=>p_i17_i7 x hx h) (fun h=>p_i17_M x hx h)))) k _ H23) ?_;rintro _ w23 ⟨ao24,cap24,rfl,f24,ne_i24,hc23,hMn⟩ a ha;have o1:=oN (blkL ao17++([g10]++([g5]++(M)))) w16;have o2:Ok (blkL ao24++(blkL ao17++([g10]++([g5]++(M))))) (blkL ao17++([g10]++([g5]++(M)))) w16.heap.size:=(Ok.app (fun x h=>.inr (ne_i24 x h)) (Ok.refl _ _))
  have f17:=f17.chg hc23 o1 o2 (fun _ _ h=>nomatch h) (fun _ h=>mr (ml h));have f8:=f8.chg hc23 o1 o2 (fun _ _ h=>nomatch h) (fun _ h=>mr (mr (mr (ml h))));have hBg10:=hBg10.c0 hc23;have p_i24_i17:=pn (B:=(blkL ao17)) hM ne_i24 fun _ hy=>ml hy;have p_i24_i7:=pn (B:=[g5]) hM ne_i24 fun _ hy=>mr (mr (ml hy));have hM:MS (blkL ao24++(blkL ao17++([g10]++([g5]++(M))))) w23:=(MS.app (fun x h=>hMn x (ml h)) (hM.chg hc23))
  have hC:=hC.t0 hc23;have f24:=Own.re (M':=blkL ao24++(blkL ao17++([g10]++([g5]++(M))))) (fun _ _ _ _ _ h=>h) f24 (fun _ h=>ml h);refine sd ha 5 [29] [(31,.int .i64 t23.1),(32,.int .i64 t23.2.1),(33,.agg (cS_api_Note t23.2.2.1 ao24 cap24).toArray),(34,.int .i64 t23.2.2.2)] fun a ha=>?_;refine alE (cS_api_Note (⟨(0:Int),(0:Int),([]:List Int)⟩:S_api_Note) none 0) ha fun a w25 g26 hN27 ha=>?_;have o1:=oN (blkL ao24++(blkL ao17++([g10]++([g5]++(M))))) w23;have o2:=oA hN27 (blkL ao24++(blkL ao17++([g10]++([g5]++(M)))));have f17:=f17.chg hN27.chg o1 o2 (fun _ _ h=>nomatch h) (fun _ h=>mr (mr (ml h)));have f24:=f24.chg hN27.chg o1 o2 (fun _ _ h=>nomatch h) (fun _ h=>mr (ml h));have f8:=f8.chg hN27.chg o1 o2 (fun _ _ h=>nomatch h) (fun _ h=>mr (mr (mr (mr (ml h)))));have hBg10:=hBg10.c0 hN27.chg;have p_i28_i24:=pn (B:=(blkL ao24)) hM (hN27.ge1) fun _ hy=>ml hy;have p_i28_i17:=pn (B:=(blkL ao17)) hM (hN27.ge1) fun _ hy=>mr (ml hy);have p_i28_i12:=pn (B:=[g10]) hM (hN27.ge1) fun _ hy=>mr (mr (ml hy));have p_i28_i7:=pn (B:=[g5]) hM (hN27.ge1) fun _ hy=>mr (mr (mr (ml hy)));have e_i28:=eN hC (hN27.ge1);have hM:=MS.app hN27.ms (hM.chg hN27.chg);have hC:=hC.t0 hN27.chg;have hBg26:=hN27.box;refine sd ha 2 [31,32] [(4,.int .i64 t23.1),(5,.int .i64 t23.2.1),(6,pt g26 0)] fun a ha=>?_;refine stE (cS_api_Note t23.2.2.1 ao24 cap24) ha hBg26 fun a w29 ha hBg26 hc30 _=>?_;have o1:Ok [g26] ([g26]++(blkL ao24++(blkL ao17++([g10]++([g5]++(M)))))) w25.heap.size:=(fun _ h=>.inl (ml h))
  have o2:=oR ([g26]++(blkL ao24++(blkL ao17++([g10]++([g5]++(M)))))) w25;have f17:=f17.chg hc30 o1 o2 (fun x (hx:x∈blkL ao17) (hy:x∈[g26])=>p_i28_i17 x hy hx) (fun _ h=>mr (mr (ml h)));have f24:=f24.chg hc30 o1 o2 (fun x (hx:x∈blkL ao24) (hy:x∈[g26])=>p_i28_i24 x hy hx) (fun _ h=>mr (ml h));have f8:=f8.chg hc30 o1 o2 (fun x (hx:x∈[g5]) (hy:x∈[g26])=>p_i28_i7 x hy hx) (fun _ h=>mr (mr (mr (mr (ml h)))));have hBg10:=hBg10.chg hc30 ((fun x (hx:x∈[g10]) (hy:x∈[g26])=>p_i28_i12 x hy hx) g10 (by simp));have hM:=hM.chg hc30;have hC:=hC.t1 hc30 e_i28;refine sd ha 1 [33,34] [(7,.int .i64 t23.2.2.2)] fun a ha=>?_;refine hK22 _ _ ?_;refine wsr fun K31 hK31=>?_;refine sd ha 2 [] [(36,.int .i64 t23.1),(37,.slice ao17 t16.1.length cap17)] fun a ha=>?_;obtain ⟨⟨hx32,hx32',hx32''⟩,H⟩:=ite_some H;have fz:=f17.toRSl (M':=[g26]++(blkL ao24++([g10]++([g5]++(M))))) (Ok.app (fun _ h=>.inl (ml h)) (Ok.app (fun _ h=>.inl (mr (ml h))) (fun _ h=>.inl (mr (mr (mr (h))))))) (fun x hx hm=>(List.mem_append.1 hm).elim (fun h=>(fun x hx hy=>p_i28_i17 x hy hx) x hx h) (fun h=>(List.mem_append.1 h).elim (fun h=>(fun x hx hy=>p_i24_i17 x hy hx) x hx h) (fun h=>(List.mem_append.1 h).elim (fun h=>p_i17_i12 x hx h) (fun h=>(List.mem_append.1 h).elim (fun h=>p_i17_i7 x hx h) (fun h=>p_i17_M x hx h)))));have o1:=oN ([g26]++(blkL ao24++(blkL ao17++([g10]++([g5]++(M)))))) w29;have o2:Ok ([g26]++(blkL ao24++([g10]++([g5]++(M))))) ([g26]++(blkL ao24++(blkL ao17++([g10]++([g5]++(M)))))) w29.heap.size:=(Ok.app (fun _ h=>.inl (ml h)) (Ok.app (fun _ h=>.inl (mr (ml h))) (fun _ h=>.inl (mr (mr (mr (h)))))))
  have f8:=f8.chg (Chg.refl [] _) o1 o2 (fun _ _ h=>nomatch h) (fun _ h=>mr (mr (mr (ml h))));have f24:=f24.chg (Chg.refl [] _) o1 o2 (fun _ _ h=>nomatch h) (fun _ h=>mr (ml h));have hM:MS ([g26]++(blkL ao24++([g10]++([g5]++(M))))) w29:=(MS.app (fun x h=>hM.chg (Chg.refl [] _) x (ml h)) (MS.app (fun x h=>hM.chg (Chg.refl [] _) x (mr (ml h))) (fun x h=>hM.chg (Chg.refl [] _) x (mr (mr (mr (h)))))))
  have f17:=fz;refine slc (r:=(rInt .u8)) (l:=(19:Int)) (h:=(t16.1.length:Int)) ha (by kernel_rfl) (by kernel_rfl) rfl rfl rfl rfl rfl rfl f17 hx32 hx32' hx32'' fun a ao33 cap33 f33 ha=>?_;obtain ⟨t34,H34,H⟩:=bind_some H;refine cL ha (message_Body.walk w29 _ hM t23.1 ((t16.1.take (Int.toNat (t16.1.length:Int))).drop (Int.toNat (19:Int))) ao33 cap33 f33 k _ H34) ?_;rintro _ w34 ⟨ao35,cap35,ao36,cap36,ao37,cap37,ao38,cap38,ao39,cap39,ao40,cap40,ao41,cap41,ao42,cap42,ao43,cap43,rfl,f35,f36,f37,f38,f39,f40,f41,f42,f43,ne_i43,hc34,hMn⟩ a ha;have o1:=oN ([g26]++(blkL ao24++([g10]++([g5]++(M))))) w29;have o2:Ok (blkL ao43++([g26]++(blkL ao24++([g10]++([g5]++(M)))))) ([g26]++(blkL ao24++([g10]++([g5]++(M))))) w29.heap.size:=(Ok.app (fun x h=>.inr (ne_i43 x h)) (Ok.refl _ _))
  have f17:=f17.chg hc34 o1 o2;have f8:=f8.chg hc34 o1 o2 (fun _ _ h=>nomatch h) (fun _ h=>mr (mr (mr (mr (ml h)))));have f24:=f24.chg hc34 o1 o2 (fun _ _ h=>nomatch h) (fun _ h=>mr (mr (ml h)));have hBg10:=hBg10.c0 hc34;have hBg26:=hBg26.c0 hc34;have p_i43_i7:=pn (B:=[g5]) hM ne_i43 fun _ hy=>mr (mr (mr (ml hy)));have hM:MS (blkL ao43++([g26]++(blkL ao24++([g10]++([g5]++(M)))))) w34:=(MS.app (fun x h=>hMn x (ml h)) (hM.chg hc34))
  have hC:=hC.t0 hc34;refine sd ha 4 [36,37] [(40,.agg (cS_api_Message t34.1 ao35 cap35 ao36 cap36 ao37 cap37 ao38 cap38 ao39 cap39 ao40 cap40 ao41 cap41 ao42 cap42).toArray),(41,.int .i64 t34.2.1),(42,.agg (cS_api_Note t34.2.2 ao43 cap43).toArray)] fun a ha=>?_;refine alE (cS_api_Message (⟨(0:Int),(⟨(0:Int),(0:Int),(⟨(0:Int),(List.replicate 16 (0:Int))⟩:S_api_Addr),([]:List S_api_Family),false⟩:S_api_Open),(⟨(⟨(0:Int),([]:List S_api_Segment),(0:Int),(0:Int),(⟨(0:Int),(List.replicate 16 (0:Int))⟩:S_api_Addr),([]:List S_api_Addr),([]:List (List Int)),([]:List S_api_Tunnel)⟩:S_api_Attrs),([]:List S_api_Table),([]:List S_api_Table)⟩:S_api_Update),(⟨(0:Int),(0:Int),([]:List Int)⟩:S_api_Note),(⟨(0:Int),(0:Int)⟩:S_api_Family)⟩:S_api_Message) none 0 none 0 none 0 none 0 none 0 none 0 none 0 none 0) ha fun a w44 g45 hN46 ha=>?_;have o1:=oN (blkL ao43++([g26]++(blkL ao24++([g10]++([g5]++(M)))))) w34;have o2:=oA hN46 (blkL ao43++([g26]++(blkL ao24++([g10]++([g5]++(M))))));have f17:=f17.chg hN46.chg o1 o2;have f35:=f35.chg hN46.chg o1 o2;have f36:=f36.chg hN46.chg o1 o2;have f37:=f37.chg hN46.chg o1 o2;have f38:=f38.chg hN46.chg o1 o2;have f39:=f39.chg hN46.chg o1 o2;have f40:=f40.chg hN46.chg o1 o2;have f41:=f41.chg hN46.chg o1 o2;have f42:=f42.chg hN46.chg o1 o2;have f43:=f43.chg hN46.chg o1 o2 (fun _ _ h=>nomatch h) (fun _ h=>mr (ml h));have f8:=f8.chg hN46.chg o1 o2 (fun _ _ h=>nomatch h) (fun _ h=>mr (mr (mr (mr (mr (ml h))))));have f24:=f24.chg hN46.chg o1 o2 (fun _ _ h=>nomatch h) (fun _ h=>mr (mr (mr (ml h))));have hBg10:=hBg10.c0 hN46.chg;have hBg26:=hBg26.c0 hN46.chg;have p_i47_i43:=pn (B:=(blkL ao43)) hM (hN46.ge1) fun _ hy=>ml hy;have p_i47_i28:=pn (B:=[g26]) hM (hN46.ge1) fun _ hy=>mr (ml hy);have p_i47_i24:=pn (B:=(blkL ao24)) hM (hN46.ge1) fun _ hy=>mr (mr (ml hy));have p_i47_i12:=pn (B:=[g10]) hM (hN46.ge1) fun _ hy=>mr (mr (mr (ml hy)));have p_i47_i7:=pn (B:=[g5]) hM (hN46.ge1) fun _ hy=>mr (mr (mr (mr (ml hy))));have e_i47:=eN hC (hN46.ge1);have hM:=MS.app hN46.ms (hM.chg hN46.chg);have hC:=hC.t0 hN46.chg;have hBg45:=hN46.box;refine alE (cS_api_Note (⟨(0:Int),(0:Int),([]:List Int)⟩:S_api_Note) none 0) ha fun a w48 g49 hN50 ha=>?_;have o1:=oN ([g45]++(blkL ao43++([g26]++(blkL ao24++([g10]++([g5]++(M))))))) w44;have o2:=oA hN50 ([g45]++(blkL ao43++([g26]++(blkL ao24++([g10]++([g5]++(M)))))));have f17:=f17.chg hN50.chg o1 o2;have f35:=f35.chg hN50.chg o1 o2;have f36:=f36.chg hN50.chg o1 o2;have f37:=f37.chg hN50.chg o1 o2;have f38:=f38.chg hN50.chg o1 o2;have f39:=f39.chg hN50.chg o1 o2;have f40:=f40.chg hN50.chg o1 o2;have f41:=f41.chg hN50.chg o1 o2;have f42:=f42.chg hN50.chg o1 o2;have f43:=f43.chg hN50.chg o1 o2 (fun _ _ h=>nomatch h) (fun _ h=>mr (mr (ml h)));have f8:=f8.chg hN50.chg o1 o2 (fun _ _ h=>nomatch h) (fun _ h=>mr (mr (mr (mr (mr (mr (ml h)))))));have f24:=f24.chg hN50.chg o1 o2 (fun _ _ h=>nomatch h) (fun _ h=>mr (mr (mr (mr (ml h)))));have hBg10:=hBg10.c0 hN50.chg;have hBg26:=hBg26.c0 hN50.chg;have hBg45:=hBg45.c0 hN50.chg;have p_i51_i47:=pn (B:=[g45]) hM (hN50.ge1) fun _ hy=>ml hy;have p_i51_i43:=pn (B:=(blkL ao43)) hM (hN50.ge1) fun _ hy=>mr (ml hy);have p_i51_i28:=pn (B:=[g26]) hM (hN50.ge1) fun _ hy=>mr (mr (ml hy));have p_i51_i24:=pn (B:=(blkL ao24)) hM (hN50.ge1) fun _ hy=>mr (mr (mr (ml hy)));have p_i51_i12:=pn (B:=[g10]) hM (hN50.ge1) fun _ hy=>mr (mr (mr (mr (ml hy))));have p_i51_i7:=pn (B:=[g5]) hM (hN50.ge1) fun _ hy=>mr (mr (mr (mr (mr (ml hy)))));have e_i51:=eN hC (hN50.ge1);have hM:=MS.app hN50.ms (hM.chg hN50.chg);have hC:=hC.t0 hN50.chg;have hBg49:=hN50.box;refine stE (cS_api_Message t34.1 ao35 cap35 ao36 cap36 ao37 cap37 ao38 cap38 ao39 cap39 ao40 cap40 ao41 cap41 ao42 cap42) ha hBg45 fun a w52 ha hBg45 hc53 _=>?_;have o1:Ok [g45] ([g49]++([g45]++(blkL ao43++([g26]++(blkL ao24++([g10]++([g5]++(M)))))))) w48.heap.size:=(fun _ h=>.inl (mr (ml h)))
  have o2:=oR ([g49]++([g45]++(blkL ao43++([g26]++(blkL ao24++([g10]++([g5]++(M)))))))) w48;have f17:=f17.chg hc53 o1 o2;have f35:=f35.chg hc53 o1 o2;have f36:=f36.chg hc53 o1 o2;have f37:=f37.chg hc53 o1 o2;have f38:=f38.chg hc53 o1 o2;have f39:=f39.chg hc53 o1 o2;have f40:=f40.chg hc53 o1 o2;have f41:=f41.chg hc53 o1 o2;have f42:=f42.chg hc53 o1 o2;have f43:=f43.chg hc53 o1 o2 (fun x (hx:x∈blkL ao43) (hy:x∈[g45])=>p_i47_i43 x hy hx) (fun _ h=>mr (mr (ml h)));have f8:=f8.chg hc53 o1 o2 (fun x (hx:x∈[g5]) (hy:x∈[g45])=>p_i47_i7 x hy hx) (fun _ h=>mr (mr (mr (mr (mr (mr (ml h)))))));have f24:=f24.chg hc53 o1 o2 (fun x (hx:x∈blkL ao24) (hy:x∈[g45])=>p_i47_i24 x hy hx) (fun _ h=>mr (mr (mr (mr (ml h)))));have hBg10:=hBg10.chg hc53 ((fun x (hx:x∈[g10]) (hy:x∈[g45])=>p_i47_i12 x hy hx) g10 (by simp));have hBg26:=hBg26.chg hc53 ((fun x (hx:x∈[g26]) (hy:x∈[g45])=>p_i47_i28 x hy hx) g26 (by simp));have hBg49:=hBg49.chg hc53 (p_i51_i47 g49 (by simp));have hM:=hM.chg hc53;have hC:=hC.t1 hc53 e_i47;refine sd ha 1 [40,41] [(8,pt g45 0),(9,.int .i64 t34.2.1),(10,pt g49 0)] fun a ha=>?_;refine stE (cS_api_Note t34.2.2 ao43 cap43) ha hBg49 fun a w54 ha hBg49 hc55 _=>?_;have o1:Ok [g49] ([g49]++([g45]++(blkL ao43++([g26]++(blkL ao24++([g10]++([g5]++(M)))))))) w52.heap.size:=(fun _ h=>.inl (ml h))
  have o2:=oR ([g49]++([g45]++(blkL ao43++([g26]++(blkL ao24++([g10]++([g5]++(M)))))))) w52;have f17:=f17.chg hc55 o1 o2;have f43:=f43.chg hc55 o1 o2 (fun x (hx:x∈blkL ao43) (hy:x∈[g49])=>p_i51_i43 x hy hx) (fun _ h=>mr (mr (ml h)));have f8:=f8.chg hc55 o1 o2 (fun x (hx:x∈[g5]) (hy:x∈[g49])=>p_i51_i7 x hy hx) (fun _ h=>mr (mr (mr (mr (mr (mr (ml h)))))));have f24:=f24.chg hc55 o1 o2 (fun x (hx:x∈blkL ao24) (hy:x∈[g49])=>p_i51_i24 x hy hx) (fun _ h=>mr (mr (mr (mr (ml h)))));have f35:=f35.chg hc55 o1 o2;have f36:=f36.chg hc55 o1 o2;have f37:=f37.chg hc55 o1 o2;have f38:=f38.chg hc55 o1 o2;have f39:=f39.chg hc55 o1 o2;have f40:=f40.chg hc55 o1 o2;have f41:=f41.chg hc55 o1 o2;have f42:=f42.chg hc55 o1 o2;have hBg10:=hBg10.chg hc55 ((fun x (hx:x∈[g10]) (hy:x∈[g49])=>p_i51_i12 x hy hx) g10 (by simp));have hBg26:=hBg26.chg hc55 ((fun x (hx:x∈[g26]) (hy:x∈[g49])=>p_i51_i28 x hy hx) g26 (by simp));have hBg45:=hBg45.chg hc55 ((fun x (hx:x∈[g45]) (hy:x∈[g49])=>p_i51_i47 x hy hx) g45 (by simp));have hM:=hM.chg hc55;have hC:=hC.t1 hc55 e_i51;refine hK31 _ _ ?_;refine wsr fun K56 hK56=>?_;obtain ⟨s57,H57,H⟩:=bind_some H;have J57:∀ (a:Act) (w57:World),Has a Tryz.f4.ntmps [(0,.bool s57)]→(Own rS_api_Family 40 w57 ([g49]++([g45]++(blkL ao43++([g26]++(blkL ao24++([g10]++([g5]++(M)))))))) (some ⟨g5,0,none⟩) 1 ([(⟨(4:Int),(5:Int)⟩:S_api_Family)]:List S_api_Family))→(Own (rInt .u8) 5 w57 ([g49]++([g45]++(blkL ao43++([g26]++(blkL ao24++([g10]++([g5]++(M)))))))) ao24 cap24 t23.2.2.1.Data)→(RSl rS_api_Family 40 w57 ([g49]++([g45]++(blkL ao43++([g26]++(blkL ao24++([g10]++([g5]++(M)))))))) ao35 cap35 t34.1.Open.Families)→(RSl rS_api_Segment 153 w57 ([g49]++([g45]++(blkL ao43++([g26]++(blkL ao24++([g10]++([g5]++(M)))))))) ao36 cap36 t34.1.Update.Attrs.Path)→(RSl rS_api_Addr 37 w57 ([g49]++([g45]++(blkL ao43++([g26]++(blkL ao24++([g10]++([g5]++(M)))))))) ao37 cap37 t34.1.Update.Attrs.Clusters)→(RSl (rArr .u8 8) 158 w57 ([g49]++([g45]++(blkL ao43++([g26]++(blkL ao24++([g10]++([g5]++(M)))))))) ao38 cap38 t34.1.Update.Attrs.Exts)→(RSl rS_api_Tunnel 161 w57 ([g49]++([g45]++(blkL ao43++([g26]++(blkL ao24++([g10]++([g5]++(M)))))))) ao39 cap39 t34.1.Update.Attrs.Tunnels)→(RSl rS_api_Table 113 w57 ([g49]++([g45]++(blkL ao43++([g26]++(blkL ao24++([g10]++([g5]++(M)))))))) ao40 cap40 t34.1.Update.Reach)→(RSl rS_api_Table 113 w57 ([g49]++([g45]++(blkL ao43++([g26]++(blkL ao24++([g10]++([g5]++(M)))))))) ao41 cap41 t34.1.Update.Unreach)→(RSl (rInt .u8) 5 w57 ([g49]++([g45]++(blkL ao43++([g26]++(blkL ao24++([g10]++([g5]++(M)))))))) ao42 cap42 t34.1.Note.Data)→(Own (rInt .u8) 5 w57 ([g49]++([g45]++(blkL ao43++([g26]++(blkL ao24++([g10]++([g5]++(M)))))))) ao43 cap43 t34.2.2.Data)→(Box w57 g10 (cS_api_Message (⟨(1:Int),(⟨(65000:Int),(90:Int),t3,([(⟨(4:Int),(5:Int)⟩:S_api_Family)]:List S_api_Family),false⟩:S_api_Open),(⟨(⟨(0:Int),([]:List S_api_Segment),(0:Int),(0:Int),(⟨(0:Int),(List.replicate 16 (0:Int))⟩:S_api_Addr),([]:List S_api_Addr),([]:List (List Int)),([]:List S_api_Tunnel)⟩:S_api_Attrs),([]:List S_api_Table),([]:List S_api_Table)⟩:S_api_Update),(⟨(0:Int),(0:Int),([]:List Int)⟩:S_api_Note),(⟨(0:Int),(0:Int)⟩:S_api_Family)⟩:S_api_Message) (some ⟨g5,0,none⟩) 1 none 0 none 0 none 0 none 0 none 0 none 0 none 0))→(Box w57 g26 (cS_api_Note t23.2.2.1 ao24 cap24))→(Box w57 g45 (cS_api_Message t34.1 ao35 cap35 ao36 cap36 ao37 cap37 ao38 cap38 ao39 cap39 ao40 cap40 ao41 cap41 ao42 cap42))→(Box w57 g49 (cS_api_Note t34.2.2 ao43 cap43))→(Chg [] w w57)→(MS ([g49]++([g45]++(blkL ao43++([g26]++(blkL ao24++([g10]++([g5]++(M)))))))) w57)→K56 a w57:=by
   intro a w57 ha f8 f24 f35 f36 f37 f38 f39 f40 f41 f42 f43 hBg10 hBg26 hBg45 hBg49 hC hM;refine hK56 _ _ ?_;refine wrt ?_;have hM:MS M w57:=hM.sb fun _ h=>mr (mr (mr (mr (mr (mr (mr (h)))))));obtain rfl:=oj H;refine rt1 ha rfl rfl ?_;exact ⟨rfl,hC,hM⟩
  have H:=H57;refine sd ha 1 [2,42] [(43,.slice ao17 t16.1.length cap17)] fun a ha=>?_;obtain ⟨⟨hx58,hx58',hx58''⟩,H⟩:=ite_some H;refine slc (r:=(rInt .u8)) (l:=(16:Int)) (h:=(t16.1.length:Int)) ha (by kernel_rfl) (by kernel_rfl) rfl rfl rfl rfl rfl rfl f17 hx58 hx58' hx58'' fun a ao59 cap59 f59 ha=>?_;refine cvs ha rfl (by kernel_rfl) (by kernel_rfl) (by kernel_rfl) rfl rfl rfl f59 fun a ha=>?_;refine sd ha 2 [43] [(47,.bool ((bstr (b2s ((t16.1.take (Int.toNat (t16.1.length:Int))).drop (Int.toNat (16:Int))))).toList==(bstr ([0,43,1,4,253,232,0,90,10,0,0,1,14,2,12,1,4,0,1,0,5,65,4,0,0,253,232]:List UInt8)).toList))] fun a ha=>?_;rcases Bool.eq_false_or_eq_true ((bstr (b2s ((t16.1.take (Int.toNat (t16.1.length:Int))).drop (Int.toNat (16:Int))))).toList==(bstr ([0,43,1,4,253,232,0,90,10,0,0,1,14,2,12,1,4,0,1,0,5,65,4,0,0,253,232]:List UInt8)).toList) with hb60 | hb60
  ·have ha:=ha.lit hb60;have H:=ite_t hb60 H;refine sgd ha 4 [2,2,3,0] [47,7] [(51,.bool (t23.2.2.2==(0:Int)))] fun a ha=>?_;rcases Bool.eq_false_or_eq_true (t23.2.2.2==(0:Int)) with hb61 | hb61
   ·have ha:=ha.lit hb61;have H:=ite_t hb61 H;refine sgd ha 4 [2,2,3,0] [51,4] [(55,.bool (t23.1==(1:Int)))] fun a ha=>?_;rcases Bool.eq_false_or_eq_true (t23.1==(1:Int)) with hb62 | hb62
    ·have ha:=ha.lit hb62;have H:=ite_t hb62 H;refine sgd ha 4 [2,2,3,0] [55,5] [(59,.bool (t23.2.1==(24:Int)))] fun a ha=>?_;rcases Bool.eq_false_or_eq_true (t23.2.1==(24:Int)) with hb63 | hb63
     ·have ha:=ha.lit hb63;have H:=ite_t hb63 H;refine sgd ha 1 [2] [6] [(59,.bool true),(60,pt g26 0)] fun a ha=>?_;refine ld (v:=.int .i64 t23.2.2.1.Code) ha rfl (by kernel_rfl) rfl rfl rfl (hBg26.cell' (o:=0) rfl (by kernel_rfl)) fun a ha=>?_;refine sgd ha 3 [2,3,0] [59,60] [(64,.bool (t23.2.2.1.Code==(0:Int)))] fun a ha=>?_;rcases Bool.eq_false_or_eq_true (t23.2.2.1.Code==(0:Int)) with hb64 | hb64
      ·have ha:=ha.lit hb64;have H:=ite_t hb64 H;refine sgd ha 4 [2,2,3,0] [64,9] [(68,.bool (t34.2.1==(0:Int)))] fun a ha=>?_;rcases Bool.eq_false_or_eq_true (t34.2.1==(0:Int)) with hb65 | hb65
       ·have ha:=ha.lit hb65;have H:=ite_t hb65 H;refine sgd ha 1 [2] [10] [(68,.bool true),(69,pt g49 0)] fun a ha=>?_;refine ld (v:=.int .i64 t34.2.2.Code) ha rfl (by kernel_rfl) rfl rfl rfl (hBg49.cell' (o:=0) rfl (by kernel_rfl)) fun a ha=>?_;refine sgd ha 3 [2,3,0] [68,69] [(73,.bool (t34.2.2.Code==(0:Int)))] fun a ha=>?_;rcases Bool.eq_false_or_eq_true (t34.2.2.Code==(0:Int)) with hb66 | hb66
        ·have ha:=ha.lit hb66;have H:=ite_t hb66 H;refine ldE (Box.cells hBg45) ha fun a ha=>?_;refine ldE (Box.cells hBg10) ha fun a ha=>?_;have hML:MS ([g49]++([g45]++(blkL ao43++([g26]++(blkL ao24++([g10]++(M))))))) w54:=MS.rest hM (fun _ h=>(List.mem_append.1 h).elim (fun h=>ml h) (fun h=>(List.mem_append.1 h).elim (fun h=>mr (ml h)) (fun h=>(List.mem_append.1 h).elim (fun h=>mr (mr (ml h))) (fun h=>(List.mem_append.1 h).elim (fun h=>mr (mr (mr (ml h)))) (fun h=>(List.mem_append.1 h).elim (fun h=>mr (mr (mr (mr (ml h))))) (fun h=>(List.mem_append.1 h).elim (fun h=>mr (mr (mr (mr (mr (ml h)))))) (fun h=>mr (mr (mr (mr (mr (mr (mr (h))))))))))))));have oL:Ok ([g49]++([g45]++(blkL ao43++([g26]++(blkL ao24++([g10]++(M))))))) ([g49]++([g45]++(blkL ao43++([g26]++(blkL ao24++([g10]++([g5]++(M)))))))) w54.heap.size:=(Ok.app (fun _ h=>.inl (ml h)) (Ok.app (fun _ h=>.inl (mr (ml h))) (Ok.app (fun _ h=>.inl (mr (mr (ml h)))) (Ok.app (fun _ h=>.inl (mr (mr (mr (ml h))))) (Ok.app (fun _ h=>.inl (mr (mr (mr (mr (ml h)))))) (Ok.app (fun _ h=>.inl (mr (mr (mr (mr (mr (ml h))))))) (fun _ h=>.inl (mr (mr (mr (mr (mr (mr (mr (h)))))))))))))))
         obtain ⟨t67,H67,H⟩:=bind_some H;refine cL ha (message_Same.walk w54 _ hML t34.1 ao35 cap35 (RSl.chg f35 (Chg.refl [] _) (Ok.nil _ _) oL) ao36 cap36 (RSl.chg f36 (Chg.refl [] _) (Ok.nil _ _) oL) ao37 cap37 (RSl.chg f37 (Chg.refl [] _) (Ok.nil _ _) oL) ao38 cap38 (RSl.chg f38 (Chg.refl [] _) (Ok.nil _ _) oL) ao39 cap39 (RSl.chg f39 (Chg.refl [] _) (Ok.nil _ _) oL) ao40 cap40 (RSl.chg f40 (Chg.refl [] _) (Ok.nil _ _) oL) ao41 cap41 (RSl.chg f41 (Chg.refl [] _) (Ok.nil _ _) oL) ao42 cap42 (RSl.chg f42 (Chg.refl [] _) (Ok.nil _ _) oL) (⟨(1:Int),(⟨(65000:Int),(90:Int),t3,([(⟨(4:Int),(5:Int)⟩:S_api_Family)]:List S_api_Family),false⟩:S_api_Open),(⟨(⟨(0:Int),([]:List S_api_Segment),(0:Int),(0:Int),(⟨(0:Int),(List.replicate 16 (0:Int))⟩:S_api_Addr),([]:List S_api_Addr),([]:List (List Int)),([]:List S_api_Tunnel)⟩:S_api_Attrs),([]:List S_api_Table),([]:List S_api_Table)⟩:S_api_Update),(⟨(0:Int),(0:Int),([]:List Int)⟩:S_api_Note),(⟨(0:Int),(0:Int)⟩:S_api_Family)⟩:S_api_Message) (some ⟨g5,0,none⟩) 1 (Own.toRSl (M':=[g49]++([g45]++(blkL ao43++([g26]++(blkL ao24++([g10]++(M))))))) f8 oL (fun x hx hm=>(List.mem_append.1 hm).elim (fun h=>(fun x hx hy=>p_i51_i7 x hy hx) x hx h) (fun h=>(List.mem_append.1 h).elim (fun h=>(fun x hx hy=>p_i47_i7 x hy hx) x hx h) (fun h=>(List.mem_append.1 h).elim (fun h=>(fun x hx hy=>p_i43_i7 x hy hx) x hx h) (fun h=>(List.mem_append.1 h).elim (fun h=>(fun x hx hy=>p_i28_i7 x hy hx) x hx h) (fun h=>(List.mem_append.1 h).elim (fun h=>(fun x hx hy=>p_i24_i7 x hy hx) x hx h) (fun h=>(List.mem_append.1 h).elim (fun h=>(fun x hx hy=>p_i12_i7 x hy hx) x hx h) (fun h=>p_i7_M x hx h)))))))) none 0 (RSl.nil (Nat.zero_le _)) none 0 (RSl.nil (Nat.zero_le _)) none 0 (RSl.nil (Nat.zero_le _)) none 0 (RSl.nil (Nat.zero_le _)) none 0 (RSl.nil (Nat.zero_le _)) none 0 (RSl.nil (Nat.zero_le _)) none 0 (RSl.nil (Nat.zero_le _)) k _ H67) ?_;rintro _ w67 ⟨rfl,hc67,hMn⟩ a ha;have o1:=oN ([g49]++([g45]++(blkL ao43++([g26]++(blkL ao24++([g10]++([g5]++(M)))))))) w54;have o2:=oR ([g49]++([g45]++(blkL ao43++([g26]++(blkL ao24++([g10]++([g5]++(M)))))))) w54;have f35:=f35.chg hc67 o1 o2;have f36:=f36.chg hc67 o1 o2;have f37:=f37.chg hc67 o1 o2;have f38:=f38.chg hc67 o1 o2;have f39:=f39.chg hc67 o1 o2;have f40:=f40.chg hc67 o1 o2;have f41:=f41.chg hc67 o1 o2;have f42:=f42.chg hc67 o1 o2;have f8:=f8.chg hc67 o1 o2 (fun _ _ h=>nomatch h) (fun _ h=>mr (mr (mr (mr (mr (mr (ml h)))))));have f24:=f24.chg hc67 o1 o2 (fun _ _ h=>nomatch h) (fun _ h=>mr (mr (mr (mr (ml h)))));have f43:=f43.chg hc67 o1 o2 (fun _ _ h=>nomatch h) (fun _ h=>mr (mr (ml h)));have hBg10:=hBg10.c0 hc67;have hBg26:=hBg26.c0 hc67;have hBg45:=hBg45.c0 hc67;have hBg49:=hBg49.c0 hc67;have hM:=hM.chg hc67;have hC:=hC.t0 hc67;refine sgf ha 2 [3,0] [(0,.bool t67)] fun a ha=>?_;obtain rfl:=oj H;exact J57 _ _ (ha.sel (by kernel_rfl)) f8 f24 f35 f36 f37 f38 f39 f40 f41 f42 f43 hBg10 hBg26 hBg45 hBg49 hC hM
        ·have ha:=ha.lit hb66;have H:=ite_f hb66 H;refine sgf ha 5 [1,1,1,4,0] [(0,.bool false)] fun a ha=>?_;obtain rfl:=oj H;exact J57 _ _ (ha.sel (by kernel_rfl)) f8 f24 f35 f36 f37 f38 f39 f40 f41 f42 f43 hBg10 hBg26 hBg45 hBg49 hC hM
       ·have ha:=ha.lit hb65;have H:=ite_f hb65 H;refine sgf ha 10 [1,1,1,4,0,1,1,1,4,0] [(0,.bool false)] fun a ha=>?_;obtain rfl:=oj H;exact J57 _ _ (ha.sel (by kernel_rfl)) f8 f24 f35 f36 f37 f38 f39 f40 f41 f42 f43 hBg10 hBg26 hBg45 hBg49 hC hM
      ·have ha:=ha.lit hb64;have H:=ite_f hb64 H;refine sgf ha 14 [1,1,4,0,1,1,1,4,0,1,1,1,4,0] [(0,.bool false)] fun a ha=>?_;obtain rfl:=oj H;exact J57 _ _ (ha.sel (by kernel_rfl)) f8 f24 f35 f36 f37 f38 f39 f40 f41 f42 f43 hBg10 hBg26 hBg45 hBg49 hC hM
     ·have ha:=ha.lit hb63;have H:=ite_f hb63 H;refine sgf ha 19 [1,1,1,4,0,1,1,4,0,1,1,1,4,0,1,1,1,4,0] [(0,.bool false)] fun a ha=>?_;obtain rfl:=oj H;exact J57 _ _ (ha.sel (by kernel_rfl)) f8 f24 f35 f36 f37 f38 f39 f40 f41 f42 f43 hBg10 hBg26 hBg45 hBg49 hC hM
    ·have ha:=ha.lit hb62;have H:=ite_f hb62 H;refine sgf ha 23 [1,1,4,0,1,1,1,4,0,1,1,4,0,1,1,1,4,0,1,1,1,4,0] [(0,.bool false)] fun a ha=>?_;obtain rfl:=oj H;exact J57 _ _ (ha.sel (by kernel_rfl)) f8 f24 f35 f36 f37 f38 f39 f40 f41 f42 f43 hBg10 hBg26 hBg45 hBg49 hC hM
   ·have ha:=ha.lit hb61;have H:=ite_f hb61 H;refine sgf ha 27 [1,1,4,0,1,1,4,0,1,1,1,4,0,1,1,4,0,1,1,1,4,0,1,1,1,4,0] [(0,.bool false)] fun a ha=>?_;obtain rfl:=oj H;exact J57 _ _ (ha.sel (by kernel_rfl)) f8 f24 f35 f36 f37 f38 f39 f40 f41 f42 f43 hBg10 hBg26 hBg45 hBg49 hC hM
  ·have ha:=ha.lit hb60;have H:=ite_f hb60 H;refine sgf ha 31 [1,1,4,0,1,1,4,0,1,1,4,0,1,1,1,4,0,1,1,4,0,1,1,1,4,0,1,1,1,4,0] [(0,.bool false)] fun a ha=>?_;obtain rfl:=oj H;exact J57 _ _ (ha.sel (by kernel_rfl)) f8 f24 f35 f36 f37 f38 f39 f40 f41 f42 f43 hBg10 hBg26 hBg45 hBg49 hC hM

theorem Lent.go (w:World) (M:List Nat) (hM:MS M w) (a0:List Int) (ao1:Option Addr) (cap1:Nat) (f1:RSl (rInt .u8) 5 w M ao1 cap1 a0) (hb:a0.length≤281474976710655) :
    To Tryz.prog 5 [.slice ao1 a0.length cap1] w fun v w'=>∃ (g:Nat),v=.slice (some ⟨g,0,none⟩) a0.length (a0.length+1)∧Box w' g (a0.map (.int .u8)++[.int .u8 77])∧(w.heap.size≤g)∧Chg [] w w'∧MS ([g]++M) w':=by
  have hmax:maxLen=9223372036854775807:=rfl
  refine ent Tryz.func5 rfl [(0,.slice ao1 a0.length cap1)] rfl rfl fun a ha=>?_
  refine wp_seq_k fun K hK=>?_
  refine wp_region_lit ?_
  refine sf ha 1 [(0,.slice ao1 a0.length cap1)] fun a ha=>?_
  refine hK _ _ ?_;clear hK K
  refine wp_seq_k fun K hK=>?_
  refine wp_region_lit ?_
  refine sf ha 5 [(0,.slice ao1 a0.length cap1),(5,.int .i64 a0.length),(8,.int .i64 (IntKind.i64.wrap ((a0.length:Int)+1)))] fun a ha=>?_
  have e8:IntKind.i64.wrap ((a0.length:Int)+1)=((a0.length+1:Nat):Int):=by rw [IntKind.wrap_i64];omega
  rw [e8] at ha
  refine mks (e:=5) (z:=.int .u8 0) (nb:=1) ha (by kernel_rfl) (by kernel_rfl) (by kernel_rfl) rfl rfl rfl (Nat.le_succ _) (by omega) (by omega) rfl rfl rfl fun a w1 g hN ha=>?_
  refine sf ha 1 [(0,.slice ao1 a0.length cap1),(3,.slice (some ⟨g,0,none⟩) a0.length (a0.length+1))] fun a ha=>?_
  refine hK _ _ ?_;clear hK K
  have h1:RSl (rInt .u8) 5 w1 ([g]++M) ao1 cap1 a0:=f1.chg hN.chg (Ok.nil _ _) (Ok.app (hN.ok _) (Ok.refl _ _))
  refine wp_seq_k fun K hK=>?_
  refine wp_region_lit ?_
  refine sf ha 2 [(0,.slice ao1 a0.length cap1),(3,.slice (some ⟨g,0,none⟩) a0.length (a0.length+1)),(10,.slice (some ⟨g,0,none⟩) a0.length (a0.length+1)),(11,.slice ao1 a0.length cap1)] fun a ha=>?_
  refine cpy ha (by kernel_rfl) (by kernel_rfl) rfl rfl rfl rfl rfl hN.box h1 (Nat.le_refl _) (by simp) fun a w2 hB hc2 ha=>?_
  refine wpl_end ?_
  have ha:=ha.sel (env':=[(0,.slice ao1 a0.length cap1),(3,.slice (some ⟨g,0,none⟩) a0.length (a0.length+1))]) (by kernel_rfl)
  refine hK _ _ ?_;clear hK K
  refine wp_seq_k fun K hK=>?_
  refine wp_region_lit ?_
  refine sf ha 4 [(0,.slice ao1 a0.length cap1),(3,.slice (some ⟨g,0,none⟩) a0.length (a0.length+1)),(13,.slice (some ⟨g,0,none⟩) a0.length (a0.length+1)),(16,.int .i64 (IntKind.i64.wrap ((a0.length:Int)+1)))] fun a ha=>?_
  rw [e8] at ha
  refine slx (T:=5) (s:=1) ha (by kernel_rfl) (by kernel_rfl) rfl rfl (Nat.le_refl _) rfl rfl rfl fun a ha=>?_
  refine sf ha 2 [(3,.slice (some ⟨g,0,none⟩) a0.length (a0.length+1)),(17,.slice (some ⟨g,0,none⟩) (a0.length+1) (a0.length+1)),(19,.int .i64 a0.length)] fun a ha=>?_
  have hl:(List.replicate (a0.length+1) (0:Int)).length=a0.length+1:=by simp
  refine hop (w':=w2) ha rfl rfl rfl (ix_run (r:=rInt .u8) (T:=5) (xs:=List.replicate (a0.length+1) (0:Int)) (k:=.i64) (i:=(a0.length:Int)) ha (by kernel_rfl) (by kernel_rfl) (by rw [hl];rfl) rfl rfl (by omega) (by rw [hl];omega)) fun a ha=>?_
  refine st (cs:=a0.map (.int .u8)++(List.replicate (a0.length+1) (Value.int .u8 0)).drop a0.length) (g:=g) (o':=a0.length) ha rfl rfl (by simp [rInt]) (by kernel_rfl) rfl rfl hB (by simp) fun a w3 ha hB3 hc3 _=>?_
  refine wpl_end ?_
  have ha:=ha.sel (env':=[(3,.slice (some ⟨g,0,none⟩) a0.length (a0.length+1))]) (by kernel_rfl)
  refine hK _ _ ?_;clear hK K
  refine wp_seq_k fun K hK=>?_
  refine wp_region_lit ?_
  refine sf ha 2 [(2,.slice (some ⟨g,0,none⟩) a0.length (a0.length+1))] fun a ha=>?_
  refine hK _ _ ?_;clear hK K
  refine wp_ret ?_
  refine rt1 ha rfl rfl ⟨g,rfl,?_,hN.ge,?_,?_⟩
  · have e:(a0.map (Value.int .u8)++(List.replicate (a0.length+1) (Value.int .u8 0)).drop a0.length).set a0.length (.int .u8 77)=a0.map (Value.int .u8)++[Value.int .u8 77]:=by
      have:(List.replicate (a0.length+1) (Value.int .u8 0)).drop a0.length=[Value.int .u8 0]:=by simp [List.drop_replicate]
      rw [this,List.set_append_right _ _ (by simp)]
      simp
    rw [e] at hB3
    exact hB3
  · exact (hN.chg.trans hc2 (Ok.one (.inr hN.ge))).trans hc3 (Ok.one (.inr hN.ge))
  · exact MS.app (fun x hx=>by simp at hx;subst hx;exact hB3.lt) (((hM.chg hN.chg).chg hc2).chg hc3)
def Lent.f (a0:List Int):Option (List Int):=if a0.length≤281474976710655 then some a0 else none
theorem Lent.walk (w:World) (M:List Nat) (hM:MS M w) (a0:List Int) (ao1:Option Addr) (cap1:Nat) (f1:RSl (rInt .u8) 5 w M ao1 cap1 a0) (r:List Int) (H:Lent.f a0=some r) :
    To Tryz.prog 5 [.slice ao1 a0.length cap1] w fun v w'=>∃ (ao2:Option Addr) (cap2:Nat),v=.slice ao2 r.length cap2∧(Len w' (blkL ao2++M) ao2 cap2 r)∧(∀ x∈blkL ao2,w.heap.size≤x)∧Chg [] w w'∧MS (blkL ao2++M) w':=by
  unfold Lent.f at H;obtain ⟨hb,H⟩:=ite_some H;obtain rfl:=oj H;refine (Lent.go w M hM a0 ao1 cap1 f1 hb).mono ?_;rintro v w' ⟨g,rfl,hB,hge,hc,hm⟩;exact ⟨some ⟨g,0,none⟩,a0.length+1,rfl,⟨g,rfl,List.mem_append_left _ (List.mem_singleton.2 rfl),rfl,hb,hB⟩,fun x hx=>by simp [blkL] at hx;subst hx;exact hge,hc,hm⟩

def vineryref01_Big.l0 (a0:List Int):Nat→Int→Int→Option (Int)
  | 0,_,_=>none
  | kk+1,x7,x8=>(if (decide (x8 < (a0.length:Int)))=true then (if 0≤x8∧x8 < (a0.length:Int) then vineryref01_Big.l0 a0 kk (IntKind.i64.wrap ((IntKind.i64.wrap (x7*(256:Int)))+(IntKind.i64.wrap (rd a0 x8)))) (IntKind.i64.wrap (x8+(1:Int))) else none) else some (x7:Int))
def vineryref01_Big.f (k:Nat) (a0:List Int):Option (Int):=(vineryref01_Big.l0 a0 k (0:Int) (0:Int)).bind fun s6=>some ((s6:Int))
set_option maxRecDepth 100000 in
theorem vineryref01_Big.walk (w:World) (M:List Nat) (hM:MS M w) (a0:List Int) (ao1:Option Addr) (cap1:Nat) (f1:RSl (rInt .u8) 5 w M ao1 cap1 a0) (k:Nat) (r:Int) (H:vineryref01_Big.f k a0=some r) :
    To Tryz.prog 22 [.slice ao1 a0.length cap1] w fun v w'=>v=.int .i64 r∧Chg [] w w'∧MS (M) w':=by
 unfold vineryref01_Big.f at H;refine ent Tryz.func22 rfl [(0,.slice ao1 a0.length cap1)] rfl (by rfl) fun a ha=>?_;have hC:Chg [] w w:=Chg.refl _ _;refine sqd ha 1 [] [] fun a ha=>?_;refine sqd ha 1 [] [(3,.int .i64 0)] fun a ha=>?_;refine wp_seq_k fun K4 hK4=>?_;refine sqd ha 1 [] [(4,.int .i64 0)] fun a ha=>?_;refine wp_block ?_;obtain ⟨s6,H6,H⟩:=bind_some H;have J6:∀ (a:Act) (wx6:World),Has a Tryz.f22.ntmps [(3,.int .i64 s6)]→(Chg [] w wx6)→(MS (M) wx6)→K4 a wx6:=by
  intro a wx6 ha hC hM;refine hK4 _ _ ?_;refine sq ha 2 [(2,.int .i64 s6)] fun a ha=>?_;refine wrt ?_;obtain rfl:=oj H;refine rt1 ha rfl rfl ?_;exact ⟨rfl,hC,hM⟩
 have Hc6:=H;have H:=H6;refine wp_loop_ghost (fun kk a w6=>∃ (x7:Int) (x8:Int),vineryref01_Big.l0 a0 kk x7 x8=some s6∧Has a Tryz.f22.ntmps [(0,.slice ao1 a0.length cap1),(3,.int .i64 x7),(4,.int .i64 x8)]∧(RSl (rInt .u8) 5 w6 (M) ao1 cap1 a0)∧(Chg [] w w6)∧(MS (M) w6)) k ?_ ?_
 ·skip;exact ⟨(0:Int),(0:Int),H,(ha.sel (by kernel_rfl)),f1,hC,hM⟩
 ·rintro kk a w6 ⟨x7,x8,H,ha,f1,hC,hM⟩;obtain _ | kk:=kk
  ·exact nomatch (show none=some _ from H)
  rw [vineryref01_Big.l0] at H;refine wp_seq_k fun K10 hK10=>?_;refine sqd ha 4 [] [(8,.bool (decide (x8 < (a0.length:Int))))] fun a ha=>?_;refine cnH H ha (fun hc12 H=>?_) (fun hc12 H=>?_)
  ·refine wp_skip ?_;refine hK10 _ _ ?_;refine wp_seq_k fun K13 hK13=>?_;refine wp_block ?_;refine wp_region_lit ?_;refine sd ha 4 [3,8] [(12,.int .i64 (IntKind.i64.wrap (x7*(256:Int)))),(13,.slice ao1 a0.length cap1),(14,.int .i64 x8)] fun a ha=>?_;obtain ⟨⟨hx14,hx14'⟩,H⟩:=ite_some H;refine ix (r:=(rInt .u8)) ha (by kernel_rfl) (by kernel_rfl) rfl rfl rfl rfl rfl f1 hx14 hx14' fun a ge15 oe16 cs17 hn20 hR18 hE19 ha=>?_;rw [rd_get] at hR18;obtain rfl:=hR18;have hE19:Cs w6 ge15 oe16 ([.int .u8 (rd a0 x8)]:List Value):=hE19;refine ld ha rfl (by kernel_rfl) rfl rfl rfl (hE19 0 (.int .u8 (rd a0 x8)) (by kernel_rfl)) fun a ha=>?_;refine sd ha 3 [12,13,14] [(3,.int .i64 (IntKind.i64.wrap ((IntKind.i64.wrap (x7*(256:Int)))+(IntKind.i64.wrap (rd a0 x8)))))] fun a ha=>?_;refine hK13 _ _ ?_;refine wp_region_lit ?_;refine sd ha 3 [] [(4,.int .i64 (IntKind.i64.wrap (x8+(1:Int))))] fun a ha=>?_;exact ⟨kk,Nat.lt_succ_self _,⟨IntKind.i64.wrap ((IntKind.i64.wrap (x7*(256:Int)))+(IntKind.i64.wrap (rd a0 x8))),IntKind.i64.wrap (x8+(1:Int)),H,(ha.sel (by kernel_rfl)),f1,hC,hM⟩⟩
  ·refine wx ?_;obtain rfl:=oj H;exact J6 _ _ (ha.sel (by kernel_rfl)) hC hM
def vineryref11_Head.l0 (a0:List Int):Nat→Int→Option ((Int×Int×S_api_Note×Int) ⊕ (Unit))
  | 0,_=>none
  | kk+1,x17=>(if (decide (x17 < (16:Int)))=true then (if 0≤x17∧x17 < (a0.length:Int) then (if ((rd a0 x17) != (255:Int))=true then some (.inl (((0:Int):Int),((0:Int):Int),((⟨(1:Int),(1:Int),([]:List Int)⟩:S_api_Note):S_api_Note),((0:Int):Int))) else vineryref11_Head.l0 a0 kk (IntKind.i64.wrap (x17+(1:Int)))) else none) else some (.inr (():Unit)))
def vineryref11_Head.f (k:Nat) (a0:List Int):Option (Int×Int×S_api_Note×Int):=(if (decide ((a0.length:Int) < (19:Int)))=true then some (((0:Int):Int),((0:Int):Int),((⟨(0:Int),(0:Int),([]:List Int)⟩:S_api_Note):S_api_Note),((3:Int):Int)) else (vineryref11_Head.l0 a0 k (0:Int)).bind fun s16=>match s16 with | .inl r=>some r | .inr s16'=>(if 0≤(16:Int)∧(16:Int)≤(18:Int)∧(18:Int)≤(a0.length:Int) then (if (([]:List Int).length+((a0.take (Int.toNat (18:Int))).drop (Int.toNat (16:Int))).length)*1≤140737488355328 then (vineryref01_Big.f k (([]:List Int)++((a0.take (Int.toNat (18:Int))).drop (Int.toNat (16:Int))))).bind fun t30=>(if 0≤(18:Int)∧(18:Int) < (a0.length:Int) then (if (if (decide (t30 < (19:Int)))=true then true else (decide (t30 > (4096:Int))))=true then some (((0:Int):Int),((0:Int):Int),((⟨(1:Int),(2:Int),(([]:List Int)++((a0.take (Int.toNat (18:Int))).drop (Int.toNat (16:Int))))⟩:S_api_Note):S_api_Note),((0:Int):Int)) else (if (if (decide ((IntKind.i64.wrap (rd a0 (18:Int))) < (1:Int)))=true then true else (decide ((IntKind.i64.wrap (rd a0 (18:Int))) > (5:Int))))=true then (if 0≤(18:Int)∧(18:Int) < (a0.length:Int) then some (((0:Int):Int),((0:Int):Int),((⟨(1:Int),(3:Int),([rd a0 (18:Int)]:List Int)⟩:S_api_Note):S_api_Note),((0:Int):Int)) else none) else ((if 0≤(IntKind.i64.wrap (rd a0 (18:Int)))∧(IntKind.i64.wrap (rd a0 (18:Int))) < (([(0:Int),(29:Int),(23:Int),(21:Int),(19:Int),(23:Int)]:List Int).length:Int) then (if (decide (t30 < (rd ([(0:Int),(29:Int),(23:Int),(21:Int),(19:Int),(23:Int)]:List Int) (IntKind.i64.wrap (rd a0 (18:Int))))))=true then some (true:Bool) else (if (decide ((IntKind.i64.wrap (rd a0 (18:Int))) ≥ (4:Int)))=true then (if 0≤(IntKind.i64.wrap (rd a0 (18:Int)))∧(IntKind.i64.wrap (rd a0 (18:Int))) < (([(0:Int),(29:Int),(23:Int),(21:Int),(19:Int),(23:Int)]:List Int).length:Int) then some (t30 != (rd ([(0:Int),(29:Int),(23:Int),(21:Int),(19:Int),(23:Int)]:List Int) (IntKind.i64.wrap (rd a0 (18:Int)))):Bool) else none) else some (false:Bool))) else none)).bind fun s76=>(if s76=true then some (((0:Int):Int),((0:Int):Int),((⟨(1:Int),(2:Int),(([]:List Int)++((a0.take (Int.toNat (18:Int))).drop (Int.toNat (16:Int))))⟩:S_api_Note):S_api_Note),((0:Int):Int)) else some ((IntKind.i64.wrap (rd a0 (18:Int)):Int),(IntKind.i64.wrap (t30 - (19:Int)):Int),((⟨(0:Int),(0:Int),([]:List Int)⟩:S_api_Note):S_api_Note),((0:Int):Int))))) else none) else none) else none))
set_option maxRecDepth 100000 in
theorem vineryref11_Head.walk (w:World) (M:List Nat) (hM:MS M w) (a0:List Int) (ao1:Option Addr) (cap1:Nat) (f1:RSl (rInt .u8) 5 w M ao1 cap1 a0) (k:Nat) (r:Int×Int×S_api_Note×Int) (H:vineryref11_Head.f k a0=some r) :
    To Tryz.prog 7 [.slice ao1 a0.length cap1] w fun v w'=>∃ (ao118:Option Addr) (cap118:Nat),v=.tuple #[.int .i64 r.1,.int .i64 r.2.1,.agg (cS_api_Note r.2.2.1 ao118 cap118).toArray,.int .i64 r.2.2.2]∧(Own (rInt .u8) 5 w' (blkL ao118++(M)) ao118 cap118 r.2.2.1.Data)∧(∀ x∈blkL ao118,w.heap.size≤x)∧Chg [] w w'∧MS (blkL ao118++(M)) w':=by
 unfold vineryref11_Head.f at H;refine ent Tryz.func7 rfl [(0,.slice ao1 a0.length cap1)] rfl (by rfl) fun a ha=>?_;have hC:Chg [] w w:=Chg.refl _ _;refine wsr fun K2 hK2=>?_;refine sd ha 2 [] [] fun a ha=>?_;refine alE (cS_api_Note (⟨(0:Int),(0:Int),([]:List Int)⟩:S_api_Note) none 0) ha fun a w3 g4 hN5 ha=>?_;have o1:=oN M w;have o2:=oA hN5 M;have f1:=f1.chg hN5.chg o1 o2;have e_i6:=eN hC (hN5.ge1);have hM:=MS.app hN5.ms (hM.chg hN5.chg);have hC:=hC.t0 hN5.chg;have hBg4:=hN5.box;refine sd ha 1 [] [(4,pt g4 0)] fun a ha=>?_;refine hK2 _ _ ?_;refine wp_seq_k fun K7 hK7=>?_;refine sqd ha 3 [] [(13,.bool (decide ((a0.length:Int) < (19:Int))))] fun a ha=>?_;refine cnH H ha (fun hc9 H=>?_) (fun hc9 H=>?_)
 ·refine wsr fun K10 hK10=>?_;refine oP (.agg (cS_api_Note (⟨(0:Int),(0:Int),([]:List Int)⟩:S_api_Note) none 0).toArray) ha fun a ha=>?_;refine sd ha 2 [0,13] [(2,.int .i64 0),(3,.int .i64 0),(14,.agg (cS_api_Note (⟨(0:Int),(0:Int),([]:List Int)⟩:S_api_Note) none 0).toArray)] fun a ha=>?_;refine stE (cS_api_Note (⟨(0:Int),(0:Int),([]:List Int)⟩:S_api_Note) none 0) ha hBg4 fun a w11 ha hBg4 hc12 _=>?_;have hM:=hM.chg hc12;have hC:=hC.t1 hc12 e_i6;refine sd ha 1 [14] [(5,.int .i64 3)] fun a ha=>?_;refine hK10 _ _ ?_;refine wrt ?_;have e_z13:∀ x∈blkL none,w.heap.size≤x:=fun x hx=>Nat.le_trans hC.size ((fun _ h=>nomatch h) x hx);have hM:MS (blkL none++(M)) w11:=(MS.app (fun _ h=>nomatch h) (fun x h=>hM.chg (Chg.refl [] _) x (mr (h))))
  obtain rfl:=oj H;refine rtr ha (res4 rfl (roT ha rfl) (roT ha rfl) (roA ha rfl hBg4 (by kernel_rfl)) (roT ha rfl)) ?_;exact ⟨none,0,rfl,Own.nil,e_z13,hC,hM⟩
 ·refine wp_skip ?_;refine hK7 _ _ ?_;refine wp_seq_k fun K14 hK14=>?_;refine sqd ha 1 [13] [(6,.int .i64 0)] fun a ha=>?_;refine wp_block ?_;obtain ⟨s16,H16,H⟩:=bind_some H;have J16:∀ s16' (a:Act) (wx16:World),s16=.inr s16'→Has a Tryz.f7.ntmps [(0,.slice ao1 a0.length cap1),(4,pt g4 0)]→(RSl (rInt .u8) 5 wx16 ([g4]++(M)) ao1 cap1 a0)→(Box wx16 g4 (cS_api_Note (⟨(0:Int),(0:Int),([]:List Int)⟩:S_api_Note) none 0))→(Chg [] w wx16)→(MS ([g4]++(M)) wx16)→K14 a wx16:=by
   intro s16' a wx16 hs ha f1 hBg4 hC hM;subst hs;refine hK14 _ _ ?_;refine wsr fun K18 hK18=>?_;refine bsl (vals:=([]:List Value)) (T:=5) ha rfl ([]:List Value) (fun w=>by kernel_rfl) rfl rfl rfl fun a w19 g20 hN21 ha=>?_;have o1:=oN ([g4]++(M)) wx16;have o2:=oA hN21 ([g4]++(M));have f1:=f1.chg hN21.chg o1 o2;have hBg4:=hBg4.c0 hN21.chg;have p_i22_i6:=pn (B:=[g4]) hM (hN21.ge1) fun _ hy=>ml hy;have p_i22_M:=pn (B:=M) hM (hN21.ge1) fun _ hy=>mr (hy);have e_i22:=eN hC (hN21.ge1);have hM:=MS.app hN21.ms (hM.chg hN21.chg);have hC:=hC.t0 hN21.chg;have f23:Own (rInt .u8) 5 w19 ([g20]++([g4]++(M))) (some ⟨g20,0,none⟩) 0 ([]:List Int):=hN21.own rfl (Nat.le_of_ble_eq_true rfl);refine sd ha 1 [] [(25,.slice (some ⟨g20,0,none⟩) ([]:List Int).length 0),(26,.slice ao1 a0.length cap1)] fun a ha=>?_;obtain ⟨⟨hx24,hx24',hx24''⟩,H⟩:=ite_some H;refine slc (r:=(rInt .u8)) (l:=(16:Int)) (h:=(18:Int)) ha (by kernel_rfl) (by kernel_rfl) rfl rfl rfl rfl rfl rfl f1 hx24 hx24' hx24'' fun a ao25 cap25 f25 ha=>?_;obtain ⟨hx26,H⟩:=ite_some H;refine app (r:=(rInt .u8)) (xs:=([]:List Int)) (ys:=((a0.take (Int.toNat (18:Int))).drop (Int.toNat (16:Int)))) ha (ElemT.mk' (bytes:=1) (by kernel_rfl)) rfl rfl rfl rfl rfl f23 f25.src hx26 (by decide) fun a w27 ao28 cap28 hO28 hc28 hk28 hl28 ha=>?_;have o1:Ok [g20] ([g20]++([g4]++(M))) w19.heap.size:=(fun _ h=>.inl (ml h))
   have o2:Ok (blkL ao28++([g4]++(M))) ([g20]++([g4]++(M))) w19.heap.size:=(Ok.app (Ok.to hk28 (fun _ h=>ml h)) (fun _ h=>.inl (mr (h))))
   have f1:=f1.chg hc28 o1 o2;have hBg4:=hBg4.chg hc28 ((fun x (hx:x∈[g4]) (hy:x∈[g20])=>p_i22_i6 x hy hx) g4 (by simp));have p_i28_i6:=pf (B:=[g4]) hk28 p_i22_i6 hM fun _ hy=>mr (ml hy);have p_i28_M:=pf (B:=M) hk28 p_i22_M hM fun _ hy=>mr (mr (hy));have e_i28:=ef hk28 e_i22 hC;have hM:MS (blkL ao28++([g4]++(M))) w27:=(MS.app hl28 (fun x h=>hM.chg hc28 x (mr (h))))
   have hC:=hC.t1 hc28 e_i22;have f28:=hO28.chg (M':=blkL ao28++([g4]++(M))) (Chg.refl [] _) (Ok.nil _ _) (Ok.app (fun _ h=>.inl (ml h)) (Ok.to (fun _ h=>.inl (mr (h))) (fun _ h=>mr h))) (fun _ _ h=>nomatch h) (fun _ h=>ml h);refine sd ha 1 [25,26] [(7,.slice ao28 (([]:List Int)++((a0.take (Int.toNat (18:Int))).drop (Int.toNat (16:Int)))).length cap28)] fun a ha=>?_;refine hK18 _ _ ?_;refine wsr fun K29 hK29=>?_;refine sd ha 1 [] [(29,.slice ao28 (([]:List Int)++((a0.take (Int.toNat (18:Int))).drop (Int.toNat (16:Int)))).length cap28)] fun a ha=>?_;have hML:MS ([g4]++(M)) w27:=MS.rest hM (fun _ h=>(List.mem_append.1 h).elim (fun h=>mr (ml h)) (fun h=>mr (mr (h))));have oL:Ok ([g4]++(M)) (blkL ao28++([g4]++(M))) w27.heap.size:=(fun _ h=>.inl (mr (h)))
   obtain ⟨t30,H30,H⟩:=bind_some H;refine cL ha (vineryref01_Big.walk w27 _ hML (([]:List Int)++((a0.take (Int.toNat (18:Int))).drop (Int.toNat (16:Int)))) ao28 cap28 (Own.toRSl (M':=[g4]++(M)) f28 oL (fun x hx hm=>(List.mem_append.1 hm).elim (fun h=>p_i28_i6 x hx h) (fun h=>p_i28_M x hx h))) k _ H30) ?_;rintro _ w30 ⟨rfl,hc30,hMn⟩ a ha;have o1:=oN (blkL ao28++([g4]++(M))) w27;have o2:=oR (blkL ao28++([g4]++(M))) w27;have f1:=f1.chg hc30 o1 o2;have f28:=f28.chg hc30 o1 o2 (fun _ _ h=>nomatch h) (fun _ h=>ml h);have hBg4:=hBg4.c0 hc30;have hM:=hM.chg hc30;have hC:=hC.t0 hc30;refine sd ha 1 [29] [(8,.int .i64 t30)] fun a ha=>?_;refine hK29 _ _ ?_;refine wsr fun K31 hK31=>?_;refine sd ha 1 [] [(31,.slice ao1 a0.length cap1)] fun a ha=>?_;obtain ⟨⟨hx32,hx32'⟩,H⟩:=ite_some H;refine ix (r:=(rInt .u8)) ha (by kernel_rfl) (by kernel_rfl) rfl rfl rfl rfl rfl f1 hx32 hx32' fun a ge33 oe34 cs35 hn38 hR36 hE37 ha=>?_;rw [rd_get] at hR36;obtain rfl:=hR36;have hE37:Cs w30 ge33 oe34 ([.int .u8 (rd a0 (18:Int))]:List Value):=hE37;refine ld ha rfl (by kernel_rfl) rfl rfl rfl (hE37 0 (.int .u8 (rd a0 (18:Int))) (by kernel_rfl)) fun a ha=>?_;refine sd ha 2 [31] [(9,.int .i64 (IntKind.i64.wrap (rd a0 (18:Int))))] fun a ha=>?_;refine hK31 _ _ ?_;refine wsr fun K39 hK39=>?_;refine bsl (vals:=([.int .i64 (0:Int),.int .i64 (29:Int),.int .i64 (23:Int),.int .i64 (21:Int),.int .i64 (19:Int),.int .i64 (23:Int)]:List Value)) (T:=3) ha rfl (([.int .i64 (0:Int)]:List Value)++(([.int .i64 (29:Int)]:List Value)++(([.int .i64 (23:Int)]:List Value)++(([.int .i64 (21:Int)]:List Value)++(([.int .i64 (19:Int)]:List Value)++(([.int .i64 (23:Int)]:List Value)++([]:List Value))))))) (fun w=>by kernel_rfl) rfl rfl rfl fun a w40 g41 hN42 ha=>?_;have o1:=oN (blkL ao28++([g4]++(M))) w30;have o2:=oA hN42 (blkL ao28++([g4]++(M)));have f1:=f1.chg hN42.chg o1 o2;have f28:=f28.chg hN42.chg o1 o2 (fun _ _ h=>nomatch h) (fun _ h=>mr (ml h));have hBg4:=hBg4.c0 hN42.chg;have p_i43_i6:=pn (B:=[g4]) hM (hN42.ge1) fun _ hy=>mr (ml hy);have hM:=MS.app hN42.ms (hM.chg hN42.chg);have hC:=hC.t0 hN42.chg;have f44:Own (rInt .i64) 3 w40 ([g41]++(blkL ao28++([g4]++(M)))) (some ⟨g41,0,none⟩) 6 ([(0:Int),(29:Int),(23:Int),(21:Int),(19:Int),(23:Int)]:List Int):=hN42.own ⟨([.int .i64 (0:Int)]:List Value),_,rfl,rfl,⟨([.int .i64 (29:Int)]:List Value),_,rfl,rfl,⟨([.int .i64 (23:Int)]:List Value),_,rfl,rfl,⟨([.int .i64 (21:Int)]:List Value),_,rfl,rfl,⟨([.int .i64 (19:Int)]:List Value),_,rfl,rfl,⟨([.int .i64 (23:Int)]:List Value),_,rfl,rfl,rfl⟩⟩⟩⟩⟩⟩ (Nat.le_of_ble_eq_true rfl);refine sd ha 1 [] [(10,.slice (some ⟨g41,0,none⟩) ([(0:Int),(29:Int),(23:Int),(21:Int),(19:Int),(23:Int)]:List Int).length 6)] fun a ha=>?_;refine hK39 _ _ ?_;refine wp_seq_k fun K45 hK45=>?_;refine sqd ha 6 [] [(41,.bool (if (decide (t30 < (19:Int)))=true then true else (decide (t30 > (4096:Int)))))] fun a ha=>?_;refine cnH H ha (fun hc47 H=>?_) (fun hc47 H=>?_)
   ·refine wsr fun K48 hK48=>?_;refine sf ha 1 [(4,pt g4 0),(42,.slice ao28 (([]:List Int)++((a0.take (Int.toNat (18:Int))).drop (Int.toNat (16:Int)))).length cap28)] fun a ha=>?_;refine oP (.agg (cS_api_Note (⟨(1:Int),(2:Int),(([]:List Int)++((a0.take (Int.toNat (18:Int))).drop (Int.toNat (16:Int))))⟩:S_api_Note) ao28 cap28).toArray) ha fun a ha=>?_;refine sd ha 2 [42] [(2,.int .i64 0),(3,.int .i64 0),(43,.agg (cS_api_Note (⟨(1:Int),(2:Int),(([]:List Int)++((a0.take (Int.toNat (18:Int))).drop (Int.toNat (16:Int))))⟩:S_api_Note) ao28 cap28).toArray)] fun a ha=>?_;refine stE (cS_api_Note (⟨(1:Int),(2:Int),(([]:List Int)++((a0.take (Int.toNat (18:Int))).drop (Int.toNat (16:Int))))⟩:S_api_Note) ao28 cap28) ha hBg4 fun a w49 ha hBg4 hc50 _=>?_;have o1:Ok [g4] ([g41]++(blkL ao28++([g4]++(M)))) w40.heap.size:=(fun _ h=>.inl (mr (mr (ml h))))
    have o2:=oR ([g41]++(blkL ao28++([g4]++(M)))) w40;have f28:=f28.chg hc50 o1 o2 p_i28_i6 (fun _ h=>mr (ml h));have hM:=hM.chg hc50;have hC:=hC.t1 hc50 e_i6;refine sd ha 1 [43] [(5,.int .i64 0)] fun a ha=>?_;refine hK48 _ _ ?_;refine wrt ?_;have o1:=oN ([g41]++(blkL ao28++([g4]++(M)))) w49;have o2:Ok (blkL ao28++(M)) ([g41]++(blkL ao28++([g4]++(M)))) w49.heap.size:=(Ok.app (fun _ h=>.inl (mr (ml h))) (fun _ h=>.inl (mr (mr (mr (h))))))
    have f28:=f28.chg (Chg.refl [] _) o1 o2 (fun _ _ h=>nomatch h) (fun _ h=>ml h);have hM:MS (blkL ao28++(M)) w49:=(MS.app (fun x h=>hM.chg (Chg.refl [] _) x (mr (ml h))) (fun x h=>hM.chg (Chg.refl [] _) x (mr (mr (mr (h))))))
    obtain rfl:=oj H;refine rtr ha (res4 rfl (roT ha rfl) (roT ha rfl) (roA ha rfl hBg4 (by kernel_rfl)) (roT ha rfl)) ?_;exact ⟨ao28,cap28,rfl,f28,e_i28,hC,hM⟩
   ·refine wp_skip ?_;refine hK45 _ _ ?_;refine wp_seq_k fun K51 hK51=>?_;refine sqd ha 6 [41] [(49,.bool (if (decide ((IntKind.i64.wrap (rd a0 (18:Int))) < (1:Int)))=true then true else (decide ((IntKind.i64.wrap (rd a0 (18:Int))) > (5:Int)))))] fun a ha=>?_;refine cnH H ha (fun hc53 H=>?_) (fun hc53 H=>?_)
    ·refine wp_seq_k fun K54 hK54=>?_;have okS:Ok ([g4]) ([g41]++(blkL ao28++([g4]++(M)))) w40.heap.size:=(fun _ h=>.inl (mr (mr (ml h))))
     have z_f1:=f1;refine drw (fun w'=>Chg ([g4]) w40 w') (by kernel_rfl) fun w55 hc56 _=>?_;have hS:Chg ([g4]) w40 w55:=(Chg.refl ([g4]) _).trans hc56 (Ok.nil _ _);have o1:=oN ([g41]++(blkL ao28++([g4]++(M)))) w40;have o2:=oR ([g41]++(blkL ao28++([g4]++(M)))) w40;have f28:=f28.chg hc56 o1 o2 (fun _ _ h=>nomatch h) (fun _ h=>mr (ml h));have f44:=f44.chg hc56 o1 o2 (fun _ _ h=>nomatch h) (fun _ h=>ml h);have hBg4:=hBg4.c0 hc56;have hM:=hM.chg hc56;have hC:=hC.t0 hc56;refine tp 0 0 (.slice ao1 a0.length cap1) ha hS fun a ha=>?_;obtain ⟨⟨hx57,hx57'⟩,H⟩:=ite_some H;obtain ⟨ge58,oe590,cs60,hx57eq,hn63,hR61,hE62⟩:=RSl.elem z_f1 (Int.toNat (18:Int)) (by omega);rw [rd_get] at hR61;obtain rfl:=hR61;have hE62:Cs w40 ge58 (oe590+(Int.toNat (18:Int))*(rInt .u8).sz) ([.int .u8 (rd a0 (18:Int))]:List Value):=hE62;refine tz 1 ha rfl (fun w' _=>ix_run (r:=(rInt .u8)) (T:=5) ha (by kernel_rfl) (by kernel_rfl) (by rfl) (by rfl) hx57eq hx57 hx57') hS fun a ha=>?_;refine tz 2 (v:=.int .u8 (rd a0 (18:Int))) ha rfl (fun w' hs=>ld_run ha rfl (by kernel_rfl) (cell_keep hs okS hn63 (hE62 0 (.int .u8 (rd a0 (18:Int))) (by kernel_rfl)))) hS fun a ha=>?_;refine tp 5 0 (.int .i64 0) ha hS fun a ha=>?_;refine tp 6 0 (.int .i64 0) ha hS fun a ha=>?_;refine ac 3 (by kernel_rfl) (by rfl) fun K64 hK64=>?_;refine bsl (vals:=([.int .u8 (rd a0 (18:Int))]:List Value)) (T:=5) ha rfl (([.int .u8 (rd a0 (18:Int))]:List Value)++([]:List Value)) (fun w=>by kernel_rfl) rfl rfl rfl fun a w65 g66 hN67 ha=>?_;have o1:=oN ([g41]++(blkL ao28++([g4]++(M)))) w55;have o2:=oA hN67 ([g41]++(blkL ao28++([g4]++(M))));have f28:=f28.chg hN67.chg o1 o2 (fun _ _ h=>nomatch h) (fun _ h=>mr (mr (ml h)));have f44:=f44.chg hN67.chg o1 o2 (fun _ _ h=>nomatch h) (fun _ h=>mr (ml h));have hBg4:=hBg4.c0 hN67.chg;have p_iD000068_i6:=pn (B:=[g4]) hM (hN67.ge1) fun _ hy=>mr (mr (ml hy));have e_iD000068:=eN hC (hN67.ge1);have hM:=MS.app hN67.ms (hM.chg hN67.chg);have hC:=hC.t0 hN67.chg;have hS:=hS.trans hN67.chg (Ok.nil _ _);have f69:Own (rInt .u8) 5 w65 ([g66]++([g41]++(blkL ao28++([g4]++(M))))) (some ⟨g66,0,none⟩) 1 ([rd a0 (18:Int)]:List Int):=hN67.own ⟨([.int .u8 (rd a0 (18:Int))]:List Value),_,rfl,rfl,rfl⟩ (Nat.le_of_ble_eq_true rfl);refine ae hK64 hS ?_;clear hK64 K64;refine ac 4 (by kernel_rfl) (by rfl) fun K70 hK70=>?_;refine oP (.agg (cS_api_Note (⟨(1:Int),(3:Int),([rd a0 (18:Int)]:List Int)⟩:S_api_Note) (some ⟨g66,0,none⟩) 1).toArray) ha fun a ha=>?_;refine ae hK70 hS ?_;clear hK70 K70;refine ac 7 (by kernel_rfl) (by rfl) fun K71 hK71=>?_;refine stE (cS_api_Note (⟨(1:Int),(3:Int),([rd a0 (18:Int)]:List Int)⟩:S_api_Note) (some ⟨g66,0,none⟩) 1) ha hBg4 fun a w72 ha hBg4 hc73 _=>?_;have o1:Ok [g4] ([g66]++([g41]++(blkL ao28++([g4]++(M))))) w65.heap.size:=(fun _ h=>.inl (mr (mr (mr (ml h)))))
     have o2:=oR ([g66]++([g41]++(blkL ao28++([g4]++(M))))) w65;have f28:=f28.chg hc73 o1 o2 p_i28_i6 (fun _ h=>mr (mr (ml h)));have f44:=f44.chg hc73 o1 o2 p_i43_i6 (fun _ h=>mr (ml h));have f69:=f69.chg hc73 o1 o2 p_iD000068_i6 (fun _ h=>ml h);have hM:=hM.chg hc73;have hC:=hC.t1 hc73 e_i6;have hS:=hS.trans hc73 (fun x h=>.inl (h));refine ae hK71 hS ?_;clear hK71 K71;refine tp 8 0 (.int .i64 0) ha hS fun a ha=>?_;refine dn (by kernel_rfl) ?_;refine hK54 _ _ ?_;refine wrt ?_;have o1:=oN ([g66]++([g41]++(blkL ao28++([g4]++(M))))) w72;have o2:Ok ([g66]++(M)) ([g66]++([g41]++(blkL ao28++([g4]++(M))))) w72.heap.size:=(Ok.app (fun _ h=>.inl (ml h)) (fun _ h=>.inl (mr (mr (mr (mr (h)))))))
     have f69:=f69.chg (Chg.refl [] _) o1 o2 (fun _ _ h=>nomatch h) (fun _ h=>ml h);have hM:MS ([g66]++(M)) w72:=(MS.app (fun x h=>hM.chg (Chg.refl [] _) x (ml h)) (fun x h=>hM.chg (Chg.refl [] _) x (mr (mr (mr (mr (h)))))))
     obtain rfl:=oj H;refine rtr ha (res4 rfl (roT ha rfl) (roT ha rfl) (roA ha rfl hBg4 (by kernel_rfl)) (roT ha rfl)) ?_;exact ⟨(some ⟨g66,0,none⟩),1,rfl,f69,e_iD000068,hC,hM⟩
    ·refine wp_skip ?_;refine hK51 _ _ ?_;refine wp_seq_k fun K74 hK74=>?_;refine wsr fun K75 hK75=>?_;obtain ⟨s76,H76,H⟩:=bind_some H;have J76:∀ (a:Act) (w76:World),Has a Tryz.f7.ntmps [(4,pt g4 0),(7,.slice ao28 (([]:List Int)++((a0.take (Int.toNat (18:Int))).drop (Int.toNat (16:Int)))).length cap28),(8,.int .i64 t30),(9,.int .i64 (IntKind.i64.wrap (rd a0 (18:Int)))),(72,.bool s76)]→(Own (rInt .u8) 5 w76 (blkL ao28++([g4]++(M))) ao28 cap28 (([]:List Int)++((a0.take (Int.toNat (18:Int))).drop (Int.toNat (16:Int)))))→(Box w76 g4 (cS_api_Note (⟨(0:Int),(0:Int),([]:List Int)⟩:S_api_Note) none 0))→(Chg [] w w76)→(MS (blkL ao28++([g4]++(M))) w76)→K75 a w76:=by
      intro a w76 ha f28 hBg4 hC hM;refine hK75 _ _ ?_;refine cnH H ha (fun hc77 H=>?_) (fun hc77 H=>?_)
      ·refine wsr fun K78 hK78=>?_;refine sf ha 1 [(4,pt g4 0),(73,.slice ao28 (([]:List Int)++((a0.take (Int.toNat (18:Int))).drop (Int.toNat (16:Int)))).length cap28)] fun a ha=>?_;refine oP (.agg (cS_api_Note (⟨(1:Int),(2:Int),(([]:List Int)++((a0.take (Int.toNat (18:Int))).drop (Int.toNat (16:Int))))⟩:S_api_Note) ao28 cap28).toArray) ha fun a ha=>?_;refine sd ha 2 [73] [(2,.int .i64 0),(3,.int .i64 0),(74,.agg (cS_api_Note (⟨(1:Int),(2:Int),(([]:List Int)++((a0.take (Int.toNat (18:Int))).drop (Int.toNat (16:Int))))⟩:S_api_Note) ao28 cap28).toArray)] fun a ha=>?_;refine stE (cS_api_Note (⟨(1:Int),(2:Int),(([]:List Int)++((a0.take (Int.toNat (18:Int))).drop (Int.toNat (16:Int))))⟩:S_api_Note) ao28 cap28) ha hBg4 fun a w79 ha hBg4 hc80 _=>?_;have o1:Ok [g4] (blkL ao28++([g4]++(M))) w76.heap.size:=(fun _ h=>.inl (mr (ml h)))
       have o2:=oR (blkL ao28++([g4]++(M))) w76;have f28:=f28.chg hc80 o1 o2 p_i28_i6 (fun _ h=>ml h);have hM:=hM.chg hc80;have hC:=hC.t1 hc80 e_i6;refine sd ha 1 [74] [(5,.int .i64 0)] fun a ha=>?_;refine hK78 _ _ ?_;refine wrt ?_;have o1:=oN (blkL ao28++([g4]++(M))) w79;have o2:Ok (blkL ao28++(M)) (blkL ao28++([g4]++(M))) w79.heap.size:=(Ok.app (fun _ h=>.inl (ml h)) (fun _ h=>.inl (mr (mr (h)))))
       have f28:=f28.chg (Chg.refl [] _) o1 o2 (fun _ _ h=>nomatch h) (fun _ h=>ml h);have hM:MS (blkL ao28++(M)) w79:=(MS.app (fun x h=>hM.chg (Chg.refl [] _) x (ml h)) (fun x h=>hM.chg (Chg.refl [] _) x (mr (mr (h)))))
       obtain rfl:=oj H;refine rtr ha (res4 rfl (roT ha rfl) (roT ha rfl) (roA ha rfl hBg4 (by kernel_rfl)) (roT ha rfl)) ?_;exact ⟨ao28,cap28,rfl,f28,e_i28,hC,hM⟩
      ·refine wp_skip ?_;refine hK74 _ _ ?_;refine wsr fun K81 hK81=>?_;refine sf ha 3 [(4,pt g4 0),(75,.int .i64 (IntKind.i64.wrap (rd a0 (18:Int)))),(77,.int .i64 (IntKind.i64.wrap (t30 - (19:Int))))] fun a ha=>?_;refine oP (.agg (cS_api_Note (⟨(0:Int),(0:Int),([]:List Int)⟩:S_api_Note) none 0).toArray) ha fun a ha=>?_;refine sd ha 2 [75,77] [(2,.int .i64 (IntKind.i64.wrap (rd a0 (18:Int)))),(3,.int .i64 (IntKind.i64.wrap (t30 - (19:Int)))),(78,.agg (cS_api_Note (⟨(0:Int),(0:Int),([]:List Int)⟩:S_api_Note) none 0).toArray)] fun a ha=>?_;refine stE (cS_api_Note (⟨(0:Int),(0:Int),([]:List Int)⟩:S_api_Note) none 0) ha hBg4 fun a w82 ha hBg4 hc83 _=>?_;have hM:=hM.chg hc83;have hC:=hC.t1 hc83 e_i6;refine sd ha 1 [78] [(5,.int .i64 0)] fun a ha=>?_;refine hK81 _ _ ?_;refine wrt ?_;have e_z84:∀ x∈blkL none,w.heap.size≤x:=fun x hx=>Nat.le_trans hC.size ((fun _ h=>nomatch h) x hx);have hM:MS (blkL none++(M)) w82:=(MS.app (fun _ h=>nomatch h) (fun x h=>hM.chg (Chg.refl [] _) x (mr (mr (h)))))
       obtain rfl:=oj H;refine rtr ha (res4 rfl (roT ha rfl) (roT ha rfl) (roA ha rfl hBg4 (by kernel_rfl)) (roT ha rfl)) ?_;exact ⟨none,0,rfl,Own.nil,e_z84,hC,hM⟩
     have H:=H76;refine sd ha 3 [0,49] [(55,.int .i64 t30),(56,.slice (some ⟨g41,0,none⟩) ([(0:Int),(29:Int),(23:Int),(21:Int),(19:Int),(23:Int)]:List Int).length 6),(57,.int .i64 (IntKind.i64.wrap (rd a0 (18:Int))))] fun a ha=>?_;obtain ⟨⟨hx85,hx85'⟩,H⟩:=ite_some H;refine ix (r:=(rInt .i64)) ha (by kernel_rfl) (by kernel_rfl) rfl rfl rfl rfl rfl (Own.toRSl (M':=[]) f44 (Ok.nil _ _) (fun _ _ h=>nomatch h)) hx85 hx85' fun a ge86 oe87 cs88 hn91 hR89 hE90 ha=>?_;rw [rd_get] at hR89;obtain rfl:=hR89;have hE90:Cs w40 ge86 oe87 ([.int .i64 (rd ([(0:Int),(29:Int),(23:Int),(21:Int),(19:Int),(23:Int)]:List Int) (IntKind.i64.wrap (rd a0 (18:Int))))]:List Value):=hE90;refine ld ha rfl (by kernel_rfl) rfl rfl rfl (hE90 0 (.int .i64 (rd ([(0:Int),(29:Int),(23:Int),(21:Int),(19:Int),(23:Int)]:List Int) (IntKind.i64.wrap (rd a0 (18:Int))))) (by kernel_rfl)) fun a ha=>?_;refine sd ha 2 [55,56,57] [(61,.bool (decide (t30 < (rd ([(0:Int),(29:Int),(23:Int),(21:Int),(19:Int),(23:Int)]:List Int) (IntKind.i64.wrap (rd a0 (18:Int)))))))] fun a ha=>?_;rcases Bool.eq_false_or_eq_true (decide (t30 < (rd ([(0:Int),(29:Int),(23:Int),(21:Int),(19:Int),(23:Int)]:List Int) (IntKind.i64.wrap (rd a0 (18:Int)))))) with hb92 | hb92
     ·have ha:=ha.lit hb92;have H:=ite_t hb92 H;refine sgd ha 11 [1,1,1,1,1,1,1,1,1,1,3] [61,10] [(72,.bool true)] fun a ha=>?_;obtain rfl:=oj H;have o1:=oN ([g41]++(blkL ao28++([g4]++(M)))) w40;have o2:Ok (blkL ao28++([g4]++(M))) ([g41]++(blkL ao28++([g4]++(M)))) w40.heap.size:=(fun _ h=>.inl (mr (h)))
      have f28:=f28.chg (Chg.refl [] _) o1 o2 (fun _ _ h=>nomatch h) (fun _ h=>ml h);have hM:MS (blkL ao28++([g4]++(M))) w40:=hM.sb fun _ h=>mr (h);exact J76 _ _ (ha.sel (by kernel_rfl)) f28 hBg4 hC hM
     ·have ha:=ha.lit hb92;have H:=ite_f hb92 H;refine sgd ha 3 [2,2,2] [] [(64,.bool (decide ((IntKind.i64.wrap (rd a0 (18:Int))) ≥ (4:Int)))),(61,.bool false)] fun a ha=>?_;rcases Bool.eq_false_or_eq_true (decide ((IntKind.i64.wrap (rd a0 (18:Int))) ≥ (4:Int))) with hb93 | hb93
      ·have ha:=ha.lit hb93;have H:=ite_t hb93 H;refine sgd ha 3 [2,2,2] [10] [(64,.bool true),(65,.int .i64 t30),(66,.slice (some ⟨g41,0,none⟩) ([(0:Int),(29:Int),(23:Int),(21:Int),(19:Int),(23:Int)]:List Int).length 6),(67,.int .i64 (IntKind.i64.wrap (rd a0 (18:Int))))] fun a ha=>?_;obtain ⟨⟨hx94,hx94'⟩,H⟩:=ite_some H;refine ix (r:=(rInt .i64)) ha (by kernel_rfl) (by kernel_rfl) rfl rfl rfl rfl rfl (Own.toRSl (M':=[]) f44 (Ok.nil _ _) (fun _ _ h=>nomatch h)) hx94 hx94' fun a ge95 oe96 cs97 hn100 hR98 hE99 ha=>?_;rw [rd_get] at hR98;obtain rfl:=hR98;have hE99:Cs w40 ge95 oe96 ([.int .i64 (rd ([(0:Int),(29:Int),(23:Int),(21:Int),(19:Int),(23:Int)]:List Int) (IntKind.i64.wrap (rd a0 (18:Int))))]:List Value):=hE99;refine ld ha rfl (by kernel_rfl) rfl rfl rfl (hE99 0 (.int .i64 (rd ([(0:Int),(29:Int),(23:Int),(21:Int),(19:Int),(23:Int)]:List Int) (IntKind.i64.wrap (rd a0 (18:Int))))) (by kernel_rfl)) fun a ha=>?_;refine sgd ha 3 [2,5,4] [61,64,65,66,67] [(72,.bool (t30 != (rd ([(0:Int),(29:Int),(23:Int),(21:Int),(19:Int),(23:Int)]:List Int) (IntKind.i64.wrap (rd a0 (18:Int))))))] fun a ha=>?_;obtain rfl:=oj H;have o1:=oN ([g41]++(blkL ao28++([g4]++(M)))) w40;have o2:Ok (blkL ao28++([g4]++(M))) ([g41]++(blkL ao28++([g4]++(M)))) w40.heap.size:=(fun _ h=>.inl (mr (h)))
       have f28:=f28.chg (Chg.refl [] _) o1 o2 (fun _ _ h=>nomatch h) (fun _ h=>ml h);have hM:MS (blkL ao28++([g4]++(M))) w40:=hM.sb fun _ h=>mr (h);exact J76 _ _ (ha.sel (by kernel_rfl)) f28 hBg4 hC hM
      ·have ha:=ha.lit hb93;have H:=ite_f hb93 H;refine sgd ha 8 [1,1,1,1,1,1,6,4] [64,10,61] [(72,.bool false)] fun a ha=>?_;obtain rfl:=oj H;have o1:=oN ([g41]++(blkL ao28++([g4]++(M)))) w40;have o2:Ok (blkL ao28++([g4]++(M))) ([g41]++(blkL ao28++([g4]++(M)))) w40.heap.size:=(fun _ h=>.inl (mr (h)))
       have f28:=f28.chg (Chg.refl [] _) o1 o2 (fun _ _ h=>nomatch h) (fun _ h=>ml h);have hM:MS (blkL ao28++([g4]++(M))) w40:=hM.sb fun _ h=>mr (h);exact J76 _ _ (ha.sel (by kernel_rfl)) f28 hBg4 hC hM
  have Hc16:=H;have H:=H16;refine wp_loop_ghost (fun kk a w16=>∃ (x17:Int),vineryref11_Head.l0 a0 kk x17=some s16∧Has a Tryz.f7.ntmps [(0,.slice ao1 a0.length cap1),(4,pt g4 0),(6,.int .i64 x17)]∧(RSl (rInt .u8) 5 w16 ([g4]++(M)) ao1 cap1 a0)∧(Box w16 g4 (cS_api_Note (⟨(0:Int),(0:Int),([]:List Int)⟩:S_api_Note) none 0))∧(Chg [] w w16)∧(MS ([g4]++(M)) w16)) k ?_ ?_
  ·skip;exact ⟨(0:Int),H,(ha.sel (by kernel_rfl)),f1,hBg4,hC,hM⟩
  ·rintro kk a w16 ⟨x17,H,ha,f1,hBg4,hC,hM⟩;obtain _ | kk:=kk
   ·exact nomatch (show none=some _ from H)
   rw [vineryref11_Head.l0] at H;refine wp_seq_k fun K101 hK101=>?_;refine sqd ha 2 [] [(16,.bool (decide (x17 < (16:Int))))] fun a ha=>?_;refine cnH H ha (fun hc103 H=>?_) (fun hc103 H=>?_)
   ·refine wp_skip ?_;refine hK101 _ _ ?_;refine wp_seq_k fun K104 hK104=>?_;refine wp_block ?_;refine wsr fun K105 hK105=>?_;refine sd ha 2 [16] [(19,.slice ao1 a0.length cap1),(20,.int .i64 x17)] fun a ha=>?_;obtain ⟨⟨hx106,hx106'⟩,H⟩:=ite_some H;refine ix (r:=(rInt .u8)) ha (by kernel_rfl) (by kernel_rfl) rfl rfl rfl rfl rfl f1 hx106 hx106' fun a ge107 oe108 cs109 hn112 hR110 hE111 ha=>?_;rw [rd_get] at hR110;obtain rfl:=hR110;have hE111:Cs w16 ge107 oe108 ([.int .u8 (rd a0 x17)]:List Value):=hE111;refine ld ha rfl (by kernel_rfl) rfl rfl rfl (hE111 0 (.int .u8 (rd a0 x17)) (by kernel_rfl)) fun a ha=>?_;refine sd ha 1 [19,20] [(23,.bool ((rd a0 x17) != (255:Int)))] fun a ha=>?_;refine hK105 _ _ ?_;refine cnH H ha (fun hc113 H=>?_) (fun hc113 H=>?_)
    ·refine wsr fun K114 hK114=>?_;refine oP (.agg (cS_api_Note (⟨(1:Int),(1:Int),([]:List Int)⟩:S_api_Note) none 0).toArray) ha fun a ha=>?_;refine sf ha 2 [(2,.int .i64 0),(3,.int .i64 0),(4,pt g4 0),(24,.agg (cS_api_Note (⟨(1:Int),(1:Int),([]:List Int)⟩:S_api_Note) none 0).toArray)] fun a ha=>?_;refine stE (cS_api_Note (⟨(1:Int),(1:Int),([]:List Int)⟩:S_api_Note) none 0) ha hBg4 fun a w115 ha hBg4 hc116 _=>?_;have hM:=hM.chg hc116;have hC:=hC.t1 hc116 e_i6;refine sd ha 1 [24] [(5,.int .i64 0)] fun a ha=>?_;refine hK114 _ _ ?_;refine wrt ?_;have e_z117:∀ x∈blkL none,w.heap.size≤x:=fun x hx=>Nat.le_trans hC.size ((fun _ h=>nomatch h) x hx);have hM:MS (blkL none++(M)) w115:=(MS.app (fun _ h=>nomatch h) (fun x h=>hM.chg (Chg.refl [] _) x (mr (h))))
     obtain rfl:=oj H;have H:=(show some _=some _ from Hc16)
     obtain rfl:=oj H;refine rtr ha (res4 rfl (roT ha rfl) (roT ha rfl) (roA ha rfl hBg4 (by kernel_rfl)) (roT ha rfl)) ?_;exact ⟨none,0,rfl,Own.nil,e_z117,hC,hM⟩
    ·refine wp_skip ?_;refine hK104 _ _ ?_;refine wp_region_lit ?_;refine sd ha 3 [23] [(6,.int .i64 (IntKind.i64.wrap (x17+(1:Int))))] fun a ha=>?_;exact ⟨kk,Nat.lt_succ_self _,⟨IntKind.i64.wrap (x17+(1:Int)),H,(ha.sel (by kernel_rfl)),f1,hBg4,hC,hM⟩⟩
   ·refine wx ?_;obtain rfl:=oj H;exact J16 _ _ _ rfl (ha.sel (by kernel_rfl)) f1 hBg4 hC hM

theorem Kept.go (w:World) (M:List Nat) (hM:MS M w) (a0:List Int) (g:Nat) (hB:Box w g (a0.map (.int .u8)++[.int .u8 77])) (hl:a0.length≤281474976710655) (a1:List Int) (ao1:Option Addr) (cap1:Nat) (f1:RSl (rInt .u8) 5 w M ao1 cap1 a1) :
    To Tryz.prog 8 [.slice (some ⟨g,0,none⟩) a0.length (a0.length+1),.slice ao1 a1.length cap1] w fun v w'=>v=.bool ((bstr (b2s a0)).toList==(bstr (b2s a1)).toList)∧Chg [] w w'∧MS M w':=by
  have hmax:maxLen=9223372036854775807:=rfl
  have f0:RSl (rInt .u8) 5 w [] (some ⟨g,0,none⟩) (a0.length+1) a0:=Box.bytes hB (by simp) (by omega) (by omega)
  refine ent Tryz.func8 rfl [(0,.slice (some ⟨g,0,none⟩) a0.length (a0.length+1)),(1,.slice ao1 a1.length cap1)] rfl rfl fun a ha=>?_
  refine wp_seq_k fun K hK=>?_
  refine wp_region_lit ?_
  refine sf ha 1 [(0,.slice (some ⟨g,0,none⟩) a0.length (a0.length+1)),(1,.slice ao1 a1.length cap1)] fun a ha=>?_
  refine hK _ _ ?_;clear hK K
  refine wp_seq_k fun K hK=>?_
  refine wp_region_lit ?_
  refine sf ha 1 [(0,.slice (some ⟨g,0,none⟩) a0.length (a0.length+1)),(1,.slice ao1 a1.length cap1),(5,.slice (some ⟨g,0,none⟩) a0.length (a0.length+1))] fun a ha=>?_
  refine cvs ha rfl (by kernel_rfl) (by kernel_rfl) (by kernel_rfl) rfl rfl rfl f0 fun a ha=>?_
  refine sf ha 1 [(0,.slice (some ⟨g,0,none⟩) a0.length (a0.length+1)),(1,.slice ao1 a1.length cap1),(6,.string (bstr (b2s a0))),(7,.slice ao1 a1.length cap1)] fun a ha=>?_
  refine cvs ha rfl (by kernel_rfl) (by kernel_rfl) (by kernel_rfl) rfl rfl rfl f1 fun a ha=>?_
  refine sf ha 2 [(10,.bool ((bstr (b2s a0)).toList==(bstr (b2s a1)).toList)),(0,.slice (some ⟨g,0,none⟩) a0.length (a0.length+1)),(1,.slice ao1 a1.length cap1)] fun a ha=>?_
  rcases Bool.eq_false_or_eq_true ((bstr (b2s a0)).toList==(bstr (b2s a1)).toList) with hb | hb
  · have ha:=ha.lit hb
    have hlen:a0.length=a1.length:=by
      have h1:=eq_of_beq hb
      rw [ByteArray.toList_eq,ByteArray.toList_eq] at h1
      have:=congrArg List.length h1
      simpa [bstr,b2s] using this
    have e8:IntKind.i64.wrap ((a1.length:Int)+1)=((a1.length+1:Nat):Int):=by rw [IntKind.wrap_i64];omega
    refine sgf ha 4 [2,2,2,2] [(10,.bool true),(1,.slice ao1 a1.length cap1),(11,.slice (some ⟨g,0,none⟩) a0.length (a0.length+1)),(14,.int .i64 (IntKind.i64.wrap ((a1.length:Int)+1)))] fun a ha=>?_
    rw [e8] at ha
    refine slx (T:=5) (s:=1) ha (by kernel_rfl) (by kernel_rfl) rfl rfl (by omega) rfl rfl rfl fun a ha=>?_
    refine sgf ha 2 [2,2] [(10,.bool true),(15,.slice (some ⟨g,0,none⟩) (a1.length+1) (a0.length+1)),(17,.int .i64 a1.length)] fun a ha=>?_
    have hl2:(List.replicate (a1.length+1) (0:Int)).length=a1.length+1:=by simp
    refine hop (w':=w) ha rfl rfl rfl (ix_run (r:=rInt .u8) (T:=5) (xs:=List.replicate (a1.length+1) (0:Int)) (k:=.i64) (i:=(a1.length:Int)) ha (by kernel_rfl) (by kernel_rfl) (by rw [hl2];rfl) rfl rfl (by omega) (by rw [hl2];omega)) fun a ha=>?_
    refine ld (v:=.int .u8 77) ha rfl (by kernel_rfl) rfl rfl rfl (hB.cell' (o:=a0.length) (by simp [rInt,hlen]) (by rw [List.getElem?_append_right (by simp)];simp)) fun a ha=>?_
    refine sgf ha 3 [2,3,0] [(4,.bool ((77:Int)==77))] fun a ha=>?_
    refine hK _ _ ?_;clear hK K
    refine wp_ret ?_
    refine rt1 ha rfl rfl ⟨?_,Chg.refl _ _,hM⟩
    rw [hb];rfl
  · have ha:=ha.lit hb
    refine sgf ha 12 [1,1,1,1,1,1,1,1,1,1,4,0] [(4,.bool false)] fun a ha=>?_
    refine hK _ _ ?_;clear hK K
    refine wp_ret ?_
    refine rt1 ha rfl rfl ⟨?_,Chg.refl _ _,hM⟩
    rw [hb]
def Kept.f (a0 a1:List Int):Option Bool:=some ((bstr (b2s a0)).toList==(bstr (b2s a1)).toList)
theorem Kept.walk (w:World) (M:List Nat) (hM:MS M w) (a0:List Int) (ao0:Option Addr) (cap0:Nat) {M1:List Nat} (f0:Len w M1 ao0 cap0 a0) (a1:List Int) (ao1:Option Addr) (cap1:Nat) (f1:RSl (rInt .u8) 5 w M ao1 cap1 a1) (r:Bool) (H:Kept.f a0 a1=some r) :
    To Tryz.prog 8 [.slice ao0 a0.length cap0,.slice ao1 a1.length cap1] w fun v w'=>v=.bool r∧Chg [] w w'∧MS M w':=by
  obtain ⟨g,rfl,_,rfl,hl,hB⟩:=f0;obtain rfl:=oj H;exact Kept.go w M hM a0 g hB hl a1 ao1 cap1 f1

def vineryref10_SameNote.f (a0:S_api_Note) (a1:S_api_Note):Option (Bool):=((if (a0.Code==a1.Code)=true then (if (a0.Sub==a1.Sub)=true then some ((bstr (b2s a0.Data)).toList==(bstr (b2s a1.Data)).toList:Bool) else some (false:Bool)) else some (false:Bool))).bind fun s15=>some ((s15:Bool))
set_option maxRecDepth 100000 in
theorem vineryref10_SameNote.walk (w:World) (M:List Nat) (hM:MS M w) (a0:S_api_Note) (ao1:Option Addr) (cap1:Nat) (f1:RSl (rInt .u8) 5 w M ao1 cap1 a0.Data) (a1:S_api_Note) (ao2:Option Addr) (cap2:Nat) (f2:RSl (rInt .u8) 5 w M ao2 cap2 a1.Data) (r:Bool) (H:vineryref10_SameNote.f a0 a1=some r) :
    To Tryz.prog 9 [.agg (cS_api_Note a0 ao1 cap1).toArray,.agg (cS_api_Note a1 ao2 cap2).toArray] w fun v w'=>v=.bool r∧Chg [] w w'∧MS (M) w':=by
 unfold vineryref10_SameNote.f at H;refine ent Tryz.func9 rfl [(0,.agg (cS_api_Note a0 ao1 cap1).toArray),(1,.agg (cS_api_Note a1 ao2 cap2).toArray)] rfl (by rfl) fun a ha=>?_;have hC:Chg [] w w:=Chg.refl _ _;refine wsr fun K3 hK3=>?_;refine bx (cs:=(cS_api_Note a0 ao1 cap1)) ha rfl rfl rfl rfl rfl fun a w4 g5 hN6 ha=>?_;have hn8:=hN6.notin hM;have o1:=oN M w;have o2:=oR M w;have f1:=f1.chg hN6.chg o1 o2;have f2:=f2.chg hN6.chg o1 o2;have hM:=hM.chg hN6.chg;have hC:=hC.t0 hN6.chg;have hE7:Cs w4 g5 0 (cS_api_Note a0 ao1 cap1):=Box.cells (New.box hN6);refine bx (cs:=(cS_api_Note a1 ao2 cap2)) ha rfl rfl rfl rfl rfl fun a w9 g10 hN11 ha=>?_;have o1:=oN M w4;have o2:=oR M w4;have f2:=f2.chg hN11.chg o1 o2;have f1:=f1.chg hN11.chg o1 o2;have hE7:=ck hN11.chg o1 hn8 hE7;have hM:=hM.chg hN11.chg;have hC:=hC.t0 hN11.chg;have hE12:Cs w9 g10 0 (cS_api_Note a1 ao2 cap2):=Box.cells (New.box hN11);refine sf ha 1 [(2,pt g5 0),(3,pt g10 0)] fun a ha=>?_;refine hK3 _ _ ?_;refine wsr fun K14 hK14=>?_;obtain ⟨s15,H15,H⟩:=bind_some H;have J15:∀ (a:Act) (w15:World),Has a Tryz.f9.ntmps [(4,.bool s15)]→(Chg [] w w15)→(MS (M) w15)→K14 a w15:=by
  intro a w15 ha hC hM;refine hK14 _ _ ?_;refine wrt ?_;obtain rfl:=oj H;refine rt1 ha rfl rfl ?_;exact ⟨rfl,hC,hM⟩
 have H:=H15;refine sd ha 1 [] [(5,pt g5 0)] fun a ha=>?_;refine ld ha rfl (by kernel_rfl) rfl rfl rfl (hE7 0 (.int .i64 a0.Code) (by kernel_rfl)) fun a ha=>?_;refine sd ha 1 [5] [(6,.int .i64 a0.Code),(7,pt g10 0)] fun a ha=>?_;refine ld ha rfl (by kernel_rfl) rfl rfl rfl (hE12 0 (.int .i64 a1.Code) (by kernel_rfl)) fun a ha=>?_;refine sd ha 2 [6,7] [(10,.bool (a0.Code==a1.Code))] fun a ha=>?_;rcases Bool.eq_false_or_eq_true (a0.Code==a1.Code) with hb16 | hb16
 ·have ha:=ha.lit hb16;have H:=ite_t hb16 H;refine sgd ha 1 [2] [] [(10,.bool true),(11,.pointer (some ⟨g5,0+1,none⟩))] fun a ha=>?_;refine ld ha rfl (by kernel_rfl) rfl rfl rfl (hE7 1 (.int .i64 a0.Sub) (by kernel_rfl)) fun a ha=>?_;refine sgd ha 1 [2] [11] [(12,.int .i64 a0.Sub),(13,.pointer (some ⟨g10,0+1,none⟩))] fun a ha=>?_;refine ld ha rfl (by kernel_rfl) rfl rfl rfl (hE12 1 (.int .i64 a1.Sub) (by kernel_rfl)) fun a ha=>?_;refine sgd ha 3 [2,3,0] [10,12,13] [(17,.bool (a0.Sub==a1.Sub))] fun a ha=>?_;rcases Bool.eq_false_or_eq_true (a0.Sub==a1.Sub) with hb17 | hb17
  ·have ha:=ha.lit hb17;have H:=ite_t hb17 H;refine sgd ha 1 [2] [2] [(17,.bool true),(18,.pointer (some ⟨g5,0+2,none⟩))] fun a ha=>?_;refine ld ha rfl (by kernel_rfl) rfl rfl rfl (hE7 2 (.slice ao1 a0.Data.length cap1) (by kernel_rfl)) fun a ha=>?_;refine cvs ha rfl (by kernel_rfl) (by kernel_rfl) (by kernel_rfl) rfl rfl rfl f1 fun a ha=>?_;refine sgd ha 1 [2] [3,18] [(20,.string (bstr (b2s a0.Data))),(21,.pointer (some ⟨g10,0+2,none⟩))] fun a ha=>?_;refine ld ha rfl (by kernel_rfl) rfl rfl rfl (hE12 2 (.slice ao2 a1.Data.length cap2) (by kernel_rfl)) fun a ha=>?_;refine cvs ha rfl (by kernel_rfl) (by kernel_rfl) (by kernel_rfl) rfl rfl rfl f2 fun a ha=>?_;refine sgf ha 3 [2,3,0] [(4,.bool ((bstr (b2s a0.Data)).toList==(bstr (b2s a1.Data)).toList))] fun a ha=>?_;obtain rfl:=oj H;exact J15 _ _ (ha.sel (by kernel_rfl)) hC hM
  ·have ha:=ha.lit hb17;have H:=ite_f hb17 H;refine sgf ha 9 [1,1,1,1,1,1,1,4,0] [(4,.bool false)] fun a ha=>?_;obtain rfl:=oj H;exact J15 _ _ (ha.sel (by kernel_rfl)) hC hM
 ·have ha:=ha.lit hb16;have H:=ite_f hb16 H;refine sgf ha 16 [1,1,1,1,1,4,0,1,1,1,1,1,1,1,4,0] [(4,.bool false)] fun a ha=>?_;obtain rfl:=oj H;exact J15 _ _ (ha.sel (by kernel_rfl)) hC hM

theorem Owned.go (w:World) (M:List Nat) (hM:MS M w) (gr:Nat) (rows:List Row) (hR:Rows w gr rows) (hl:rows.length≤1000) (h0:Cells w rows fun _ _=>True) :
    To Tryz.prog 10 [.slice (some ⟨gr,0,none⟩) rows.length rows.length] w fun v w'=>v=.bool true∧Chg (gsOf rows) w w'∧MS M w'∧Cells w' rows (fun i cur=>∃ c,cur=List.replicate c (.int .u8 (IntKind.u8.wrap ((i:Int)+1)))):=by
  refine ent Tryz.func10 rfl [(0,.slice (some ⟨gr,0,none⟩) rows.length rows.length)] rfl rfl fun a ha=>?_
  refine wp_seq_k fun K hK=>?_
  refine wp_region_lit ?_
  refine sf ha 1 [(0,.slice (some ⟨gr,0,none⟩) rows.length rows.length)] fun a ha=>?_
  refine hK _ _ ?_;clear hK K
  refine wp_seq_k fun KA hKA=>?_
  refine wp_seq_k fun K hK=>?_
  refine wp_region_lit ?_
  refine sf ha 1 [(0,.slice (some ⟨gr,0,none⟩) rows.length rows.length),(3,.int .i64 0)] fun a ha=>?_
  refine hK _ _ ?_;clear hK K
  have J1:∀ (a:Act) (w1:World),Has a Tryz.f10.ntmps [(0,.slice (some ⟨gr,0,none⟩) rows.length rows.length)]→Chg (gsOf rows) w w1→Cells w1 rows (fun i cur=>cur=List.replicate cur.length (.int .u8 (IntKind.u8.wrap ((i:Int)+1))))→KA a w1:=by
    intro a w1 ha hC hS
    refine hKA _ _ ?_
    have ewb:∀ (j:Nat),j < rows.length→IntKind.u8.wrap (IntKind.i64.wrap ((j:Int)+1))=IntKind.u8.wrap ((j:Int)+1):=fun j hj=>by
      have:IntKind.i64.wrap ((j:Int)+1)=(j:Int)+1:=by rw [IntKind.wrap_i64];omega
      rw [this]
    have hm:maxLen=9223372036854775807:=rfl
    refine wp_seq_k fun KB hKB=>?_
    refine wp_seq_k fun K hK=>?_
    refine wp_region_lit ?_
    refine sf ha 1 [(0,.slice (some ⟨gr,0,none⟩) rows.length rows.length),(6,.int .i64 0)] fun a ha=>?_
    refine hK _ _ ?_;clear hK K
    refine wp_block ?_
    refine wp_loop_ghost (fun kk a w1=>∃ (i:Nat),kk+i=rows.length+1∧i≤rows.length∧Has a Tryz.f10.ntmps [(0,.slice (some ⟨gr,0,none⟩) rows.length rows.length),(6,.int .i64 (i:Int))]∧Chg (gsOf rows) w w1∧Cells w1 rows (fun j cur=>cur=List.replicate cur.length (.int .u8 (IntKind.u8.wrap ((j:Int)+1))))) (rows.length+1) ?_ ?_
    · exact ⟨0,by omega,by omega,ha,hC,hS⟩
    · rintro kk a w1 ⟨i,hk,hi,ha,hC,hS⟩
      have hR1:=hR.keep hC
      refine wp_seq_k fun K1 hK1=>?_
      refine wsr fun K2 hK2=>?_
      refine sf ha 4 [(0,.slice (some ⟨gr,0,none⟩) rows.length rows.length),(6,.int .i64 (i:Int)),(40,.bool (decide ((i:Int) < (rows.length:Int))))] fun a ha=>?_
      refine hK2 _ _ ?_;clear hK2 K2
      refine cnd ha rfl (fun hc=>?_) (fun hc=>?_)
      · refine wp_skip ?_
        refine hK1 _ _ ?_;clear hK1 K1
        have hlt:i < rows.length:=by simpa using hc
        obtain ⟨r,hr⟩:∃ r,rows[i]? = some r:=⟨rows[i],by simp [hlt]⟩
        obtain ⟨hr1,hr2,hr3⟩:=hR.cap r (List.mem_of_getElem? hr)
        refine wp_seq_k fun K3 hK3=>?_
        refine wp_block ?_
        refine wp_seq_k fun K4 hK4=>?_
        refine drq0 (fun w'=>Chg [] w1 w') (by kernel_rfl) (by kernel_rfl) (fun _ h=>h) ?_
        have hrow:(rows.map Row.v)[i]? = some r.v:=by simp [hr]
        refine qP 0 (.slice (some ⟨gr,0,none⟩) rows.length rows.length) ha fun a ha=>?_
        refine qP 0 (.int .i64 (i:Int)) ha fun a ha=>?_
        refine qV ha (fun w' _=>ixa (T:=22) ha (by kernel_rfl) (by kernel_rfl) rfl rfl (by omega) (by omega) w') fun a ha=>?_
        refine qV (v:=r.v) ha (fun w' hs=>ld_run ha rfl (by kernel_rfl) ((Box.chg hR1.row hs (fun h=>nomatch h)).cell' (o:=i) (by simp) hrow)) fun a ha=>?_
        refine qP 0 (.slice (some ⟨gr,0,none⟩) rows.length rows.length) ha fun a ha=>?_
        refine qP 0 (.int .i64 (i:Int)) ha fun a ha=>?_
        refine qV ha (fun w' _=>ixa (T:=22) ha (by kernel_rfl) (by kernel_rfl) rfl rfl (by omega) (by omega) w') fun a ha=>?_
        refine qV (v:=r.v) ha (fun w' hs=>ld_run ha rfl (by kernel_rfl) ((Box.chg hR1.row hs (fun h=>nomatch h)).cell' (o:=i) (by simp) hrow)) fun a ha=>?_
        refine qP 0 (.int .i64 (r.cap:Int)) ha fun a ha=>?_
        refine qV (v:=.slice r.ao r.cap r.cap) ha (fun w' _=>slx_run (T:=5) (s:=1) ha (by kernel_rfl) (by kernel_rfl) rfl rfl w') fun a ha=>?_
        refine qP 0 (.slice r.ao r.cap r.cap) ha fun a ha=>?_
        refine wpQuiet_nil ?_
        intro w2 hc2
        refine wpl_end ?_
        have ha:=ha.sel (env':=[(0,.slice (some ⟨gr,0,none⟩) rows.length rows.length),(6,.int .i64 (i:Int)),(7,.slice r.ao r.cap r.cap)]) (by kernel_rfl)
        refine hK4 _ _ ?_;clear hK4 K4
        have hC2:=hC.trans hc2 (Ok.nil _ _)
        have hS2:Cells w2 rows (fun j cur=>cur=List.replicate cur.length (.int .u8 (IntKind.u8.wrap ((j:Int)+1)))):=fun j q g h1 h2=>by
          obtain ⟨cur,c1,c2,c3⟩:=hS j q g h1 h2
          exact ⟨cur,c1.chg hc2 (by simp),c2,c3⟩
        refine wsr fun K4 hK4=>?_
        refine sf ha 1 [(0,.slice (some ⟨gr,0,none⟩) rows.length rows.length),(6,.int .i64 (i:Int)),(7,.slice r.ao r.cap r.cap),(8,.int .i64 0)] fun a ha=>?_
        refine hK4 _ _ ?_;clear hK4 K4
        refine wp_block ?_
        refine wp_loop_ghost (fun kk a w3=>∃ (k:Nat),kk+k=r.cap+1∧k≤r.cap∧w3=w2∧Has a Tryz.f10.ntmps [(0,.slice (some ⟨gr,0,none⟩) rows.length rows.length),(6,.int .i64 (i:Int)),(7,.slice r.ao r.cap r.cap),(8,.int .i64 (k:Int))]) (r.cap+1) ?_ ?_
        · exact ⟨0,by omega,by omega,rfl,ha⟩
        · rintro kk2 a w3 ⟨k,hkk,hkc,rfl,ha⟩
          refine wp_seq_k fun K5 hK5=>?_
          refine wsr fun K6 hK6=>?_
          refine sf ha 4 [(0,.slice (some ⟨gr,0,none⟩) rows.length rows.length),(6,.int .i64 (i:Int)),(7,.slice r.ao r.cap r.cap),(8,.int .i64 (k:Int)),(56,.bool (decide ((k:Int) < (r.cap:Int))))] fun a ha=>?_
          refine hK6 _ _ ?_;clear hK6 K6
          refine cnd ha rfl (fun hc=>?_) (fun hc=>?_)
          · refine wp_skip ?_
            refine hK5 _ _ ?_;clear hK5 K5
            have hkl:k < r.cap:=by simpa using hc
            obtain ⟨g,hg⟩:∃ g,r.g=some g:=by
              cases hgg:r.g with
              | none=>have:=hr3 hgg;omega
              | some g=>exact ⟨g,rfl⟩
            have hao:r.ao=some ⟨g,0,none⟩:=by simp [Row.ao,hg]
            rw [hao] at ha
            obtain ⟨cur,c1,c2,c3⟩:=hS2 i r g hr hg
            refine wp_seq_k fun K6 hK6=>?_
            refine wp_block ?_
            refine wsr fun K7 hK7=>?_
            refine sf ha 2 [(0,.slice (some ⟨gr,0,none⟩) rows.length rows.length),(6,.int .i64 (i:Int)),(7,.slice (some ⟨g,0,none⟩) r.cap r.cap),(8,.int .i64 (k:Int)),(59,.slice (some ⟨g,0,none⟩) r.cap r.cap),(60,.int .i64 (k:Int))] fun a ha=>?_
            refine hop ha rfl rfl rfl (ixa (T:=5) ha (by kernel_rfl) (by kernel_rfl) rfl rfl (by omega) (by omega) _) fun a ha=>?_
            refine ld (v:=.int .u8 (IntKind.u8.wrap ((i:Int)+1))) ha rfl (by kernel_rfl) rfl rfl rfl (c1.cell' (o:=k) (by rw [Nat.zero_add,Int.toNat_natCast]) (by rw [c3,List.getElem?_replicate,if_pos (by omega)])) fun a ha=>?_
            refine sf ha 4 [(0,.slice (some ⟨gr,0,none⟩) rows.length rows.length),(6,.int .i64 (i:Int)),(7,.slice (some ⟨g,0,none⟩) r.cap r.cap),(8,.int .i64 (k:Int)),(66,.bool (IntKind.u8.wrap ((i:Int)+1) != IntKind.u8.wrap (IntKind.i64.wrap ((i:Int)+1))))] fun a ha=>?_
            refine hK7 _ _ ?_;clear hK7 K7
            refine cnd ha rfl (fun hx=>?_) (fun hx=>?_)
            · rw [ewb i hlt] at hx
              simp at hx
            · refine wp_skip ?_
              refine hK6 _ _ ?_;clear hK6 K6
              refine wp_region_lit ?_
              have e5:IntKind.i64.wrap ((k:Int)+1)=((k+1:Nat):Int):=by rw [IntKind.wrap_i64];omega
              refine sf ha 3 [(0,.slice (some ⟨gr,0,none⟩) rows.length rows.length),(6,.int .i64 (i:Int)),(7,.slice (some ⟨g,0,none⟩) r.cap r.cap),(8,.int .i64 (IntKind.i64.wrap ((k:Int)+1)))] fun a ha=>?_
              rw [e5,← hao] at ha
              exact ⟨kk2 - 1,by omega,k+1,by omega,by omega,rfl,ha⟩
          · refine wx ?_
            refine hK3 _ _ ?_
            refine wp_region_lit ?_
            have e3:IntKind.i64.wrap ((i:Int)+1)=((i+1:Nat):Int):=by rw [IntKind.wrap_i64];omega
            refine sf ha 3 [(0,.slice (some ⟨gr,0,none⟩) rows.length rows.length),(6,.int .i64 (IntKind.i64.wrap ((i:Int)+1)))] fun a ha=>?_
            rw [e3] at ha
            exact ⟨kk - 1,by omega,i+1,by omega,by omega,ha,hC2,hS2⟩
      · refine wx ?_
        refine hKB _ _ ?_
        refine wp_seq_k fun K hK=>?_
        refine wp_region_lit ?_
        refine sf ha 1 [(2,.bool true)] fun a ha=>?_
        refine hK _ _ ?_;clear hK K
        refine wp_ret ?_
        refine rt1 ha rfl rfl ⟨rfl,hC,hM.chg hC,fun j q g h1 h2=>?_⟩
        obtain ⟨cur,c1,c2,c3⟩:=hS j q g h1 h2
        exact ⟨cur,c1,c2,_,c3⟩
  refine wp_block ?_
  refine wp_loop_ghost (fun kk a w1=>∃ (i:Nat),kk+i=rows.length+1∧i≤rows.length∧Has a Tryz.f10.ntmps [(0,.slice (some ⟨gr,0,none⟩) rows.length rows.length),(3,.int .i64 (i:Int))]∧Chg (gsOf rows) w w1∧Cells w1 rows (fun j cur=>j < i→cur=List.replicate cur.length (.int .u8 (IntKind.u8.wrap ((j:Int)+1))))) (rows.length+1) ?_ ?_
  · exact ⟨0,by omega,by omega,ha,Chg.refl _ _,fun i r g h1 h2=>by
      obtain ⟨cur,c1,c2,_⟩:=h0 i r g h1 h2
      exact ⟨cur,c1,c2,fun h=>absurd h (Nat.not_lt_zero _)⟩⟩
  · rintro kk a w1 ⟨i,hk,hi,ha,hC,hS⟩
    have hR1:=hR.keep hC
    refine wp_seq_k fun K1 hK1=>?_
    refine wsr fun K2 hK2=>?_
    refine sf ha 4 [(0,.slice (some ⟨gr,0,none⟩) rows.length rows.length),(3,.int .i64 (i:Int)),(12,.bool (decide ((i:Int) < (rows.length:Int))))] fun a ha=>?_
    refine hK2 _ _ ?_;clear hK2 K2
    refine cnd ha rfl (fun hc=>?_) (fun hc=>?_)
    · refine wp_skip ?_
      refine hK1 _ _ ?_;clear hK1 K1
      have hlt:i < rows.length:=by simpa using hc
      obtain ⟨r,hr⟩:∃ r,rows[i]? = some r:=⟨rows[i],by simp [hlt]⟩
      obtain ⟨hr1,hr2,hr3⟩:=hR.cap r (List.mem_of_getElem? hr)
      refine wp_seq_k fun K3 hK3=>?_
      refine wp_block ?_
      refine wp_seq_k fun K4 hK4=>?_
      refine drq0 (fun w'=>Chg [] w1 w') (by kernel_rfl) (by kernel_rfl) (fun _ h=>h) ?_
      have hrow:(rows.map Row.v)[i]? = some r.v:=by simp [hr]
      refine qP 0 (.slice (some ⟨gr,0,none⟩) rows.length rows.length) ha fun a ha=>?_
      refine qP 0 (.int .i64 (i:Int)) ha fun a ha=>?_
      refine qV ha (fun w' _=>ixa (T:=22) ha (by kernel_rfl) (by kernel_rfl) rfl rfl (by omega) (by omega) w') fun a ha=>?_
      refine qV (v:=r.v) ha (fun w' hs=>ld_run ha rfl (by kernel_rfl) ((Box.chg hR1.row hs (fun h=>nomatch h)).cell' (o:=i) (by simp) hrow)) fun a ha=>?_
      refine qP 0 (.slice (some ⟨gr,0,none⟩) rows.length rows.length) ha fun a ha=>?_
      refine qP 0 (.int .i64 (i:Int)) ha fun a ha=>?_
      refine qV ha (fun w' _=>ixa (T:=22) ha (by kernel_rfl) (by kernel_rfl) rfl rfl (by omega) (by omega) w') fun a ha=>?_
      refine qV (v:=r.v) ha (fun w' hs=>ld_run ha rfl (by kernel_rfl) ((Box.chg hR1.row hs (fun h=>nomatch h)).cell' (o:=i) (by simp) hrow)) fun a ha=>?_
      refine qP 0 (.int .i64 (r.cap:Int)) ha fun a ha=>?_
      refine qV (v:=.slice r.ao r.cap r.cap) ha (fun w' _=>slx_run (T:=5) (s:=1) ha (by kernel_rfl) (by kernel_rfl) rfl rfl w') fun a ha=>?_
      refine qP 0 (.slice r.ao r.cap r.cap) ha fun a ha=>?_
      refine wpQuiet_nil ?_
      intro w2 hc2
      refine wpl_end ?_
      have ha:=ha.sel (env':=[(0,.slice (some ⟨gr,0,none⟩) rows.length rows.length),(3,.int .i64 (i:Int)),(4,.slice r.ao r.cap r.cap)]) (by kernel_rfl)
      refine hK4 _ _ ?_;clear hK4 K4
      have hC2:=hC.trans hc2 (Ok.nil _ _)
      have hS2:Cells w2 rows (fun j cur=>j < i→cur=List.replicate cur.length (.int .u8 (IntKind.u8.wrap ((j:Int)+1)))):=fun j q g h1 h2=>by
        obtain ⟨cur,c1,c2,c3⟩:=hS j q g h1 h2
        exact ⟨cur,c1.chg hc2 (by simp),c2,c3⟩
      refine wsr fun K4 hK4=>?_
      refine sf ha 1 [(0,.slice (some ⟨gr,0,none⟩) rows.length rows.length),(3,.int .i64 (i:Int)),(4,.slice r.ao r.cap r.cap),(5,.int .i64 0)] fun a ha=>?_
      refine hK4 _ _ ?_;clear hK4 K4
      have ewb:∀ (j:Nat),j < rows.length→IntKind.u8.wrap (IntKind.i64.wrap ((j:Int)+1))=IntKind.u8.wrap ((j:Int)+1):=fun j hj=>by
        have:IntKind.i64.wrap ((j:Int)+1)=(j:Int)+1:=by rw [IntKind.wrap_i64];omega
        rw [this]
      have hm:maxLen=9223372036854775807:=rfl
      refine wp_block ?_
      refine wp_loop_ghost (fun kk a w3=>∃ (k:Nat),kk+k=r.cap+1∧k≤r.cap∧Has a Tryz.f10.ntmps [(0,.slice (some ⟨gr,0,none⟩) rows.length rows.length),(3,.int .i64 (i:Int)),(4,.slice r.ao r.cap r.cap),(5,.int .i64 (k:Int))]∧Chg (gsOf rows) w w3 ∧
        Cells w3 rows (fun j cur=>(j < i→cur=List.replicate cur.length (.int .u8 (IntKind.u8.wrap ((j:Int)+1))))∧(j=i→cur.take k=List.replicate k (.int .u8 (IntKind.u8.wrap ((j:Int)+1)))))) (r.cap+1) ?_ ?_
      · exact ⟨0,by omega,by omega,ha,hC2,fun j q g h1 h2=>by
          obtain ⟨cur,c1,c2,c3⟩:=hS2 j q g h1 h2
          exact ⟨cur,c1,c2,c3,fun _=>by simp⟩⟩
      · rintro kk2 a w3 ⟨k,hkk,hkc,ha,hC3,hS3⟩
        refine wp_seq_k fun K5 hK5=>?_
        refine wsr fun K6 hK6=>?_
        refine sf ha 4 [(0,.slice (some ⟨gr,0,none⟩) rows.length rows.length),(3,.int .i64 (i:Int)),(4,.slice r.ao r.cap r.cap),(5,.int .i64 (k:Int)),(28,.bool (decide ((k:Int) < (r.cap:Int))))] fun a ha=>?_
        refine hK6 _ _ ?_;clear hK6 K6
        refine cnd ha rfl (fun hc=>?_) (fun hc=>?_)
        · refine wp_skip ?_
          refine hK5 _ _ ?_;clear hK5 K5
          have hkl:k < r.cap:=by simpa using hc
          obtain ⟨g,hg⟩:∃ g,r.g=some g:=by
            cases hgg:r.g with
            | none=>have:=hr3 hgg;omega
            | some g=>exact ⟨g,rfl⟩
          have hao:r.ao=some ⟨g,0,none⟩:=by simp [Row.ao,hg]
          rw [hao] at ha
          obtain ⟨cur,c1,c2,c3,c4⟩:=hS3 i r g hr hg
          refine wp_seq_k fun K6 hK6=>?_
          refine wp_block ?_
          refine wp_region_lit ?_
          refine sf ha 5 [(0,.slice (some ⟨gr,0,none⟩) rows.length rows.length),(3,.int .i64 (i:Int)),(4,.slice (some ⟨g,0,none⟩) r.cap r.cap),(5,.int .i64 (k:Int)),(31,.slice (some ⟨g,0,none⟩) r.cap r.cap),(32,.int .i64 (k:Int)),(35,.int .u8 (IntKind.u8.wrap (IntKind.i64.wrap ((i:Int)+1))))] fun a ha=>?_
          refine hop ha rfl rfl rfl (ixa (T:=5) ha (by kernel_rfl) (by kernel_rfl) rfl rfl (by omega) (by omega) _) fun a ha=>?_
          refine st (cs:=cur) (g:=g) (o':=k) ha rfl rfl (by simp) (by kernel_rfl) rfl rfl c1 (by omega) fun a w4 ha hB4 hc4 _=>?_
          refine wpl_end ?_
          have ha:=ha.sel (env':=[(0,.slice (some ⟨gr,0,none⟩) rows.length rows.length),(3,.int .i64 (i:Int)),(4,.slice (some ⟨g,0,none⟩) r.cap r.cap),(5,.int .i64 (k:Int))]) (by kernel_rfl)
          refine hK6 _ _ ?_;clear hK6 K6
          refine wp_region_lit ?_
          have e5:IntKind.i64.wrap ((k:Int)+1)=((k+1:Nat):Int):=by rw [IntKind.wrap_i64];omega
          refine sf ha 3 [(0,.slice (some ⟨gr,0,none⟩) rows.length rows.length),(3,.int .i64 (i:Int)),(4,.slice (some ⟨g,0,none⟩) r.cap r.cap),(5,.int .i64 (IntKind.i64.wrap ((k:Int)+1)))] fun a ha=>?_
          rw [e5,← hao] at ha
          refine ⟨kk2 - 1,by omega,k+1,by omega,by omega,ha,hC3.trans hc4 (Ok.one (.inl (gs_mem hr hg))),fun j q g2 h1 h2=>?_⟩
          by_cases hji:j=i
          · subst hji
            have hq:q=r:=Option.some.inj (h1.symm.trans hr)
            subst hq
            have hgg:g2=g:=Option.some.inj (h2.symm.trans hg)
            subst hgg
            refine ⟨_,hB4,by simp [c2],fun h=>absurd h (Nat.lt_irrefl _),fun _=>?_⟩
            rw [ewb j hlt,List.replicate_succ',← c4 rfl]
            rw [List.take_add_one]
            have hklen:k < cur.length:=by omega
            rw [List.take_set_of_le (Nat.le_refl _)]
            simp [hklen]
          · have hne:g2≠g:=fun e=>hji (hR.one j i q r g h1 hr (e ▸ h2) hg)
            obtain ⟨cu,b1,b2,b3,b4⟩:=hS3 j q g2 h1 h2
            exact ⟨cu,b1.chg hc4 (by simpa using hne),b2,b3,fun e=>absurd e hji⟩
        · refine wx ?_
          have hkc':k=r.cap:=by
            have:¬ k < r.cap:=by simpa using hc
            omega
          subst hkc'
          refine hK3 _ _ ?_
          refine wp_region_lit ?_
          have e3:IntKind.i64.wrap ((i:Int)+1)=((i+1:Nat):Int):=by rw [IntKind.wrap_i64];omega
          refine sf ha 3 [(0,.slice (some ⟨gr,0,none⟩) rows.length rows.length),(3,.int .i64 (IntKind.i64.wrap ((i:Int)+1)))] fun a ha=>?_
          rw [e3] at ha
          refine ⟨kk - 1,by omega,i+1,by omega,by omega,ha,hC3,fun j q g2 h1 h2=>?_⟩
          obtain ⟨cu,b1,b2,b3,b4⟩:=hS3 j q g2 h1 h2
          refine ⟨cu,b1,b2,fun hj=>?_⟩
          by_cases hji:j=i
          · have hq:q=r:=by subst hji;exact Option.some.inj (h1.symm.trans hr)
            subst hq
            have:=b4 hji
            rw [← b2,List.take_length] at this
            exact this
          · exact b3 (by omega)
    · refine wx ?_
      have hge:i=rows.length:=by
        have:¬ i < rows.length:=by simpa using hc
        omega
      subst hge
      exact J1 _ _ (ha.sel (by kernel_rfl)) hC (fun j q g h1 h2=>by
        obtain ⟨cur,c1,c2,c3⟩:=hS j q g h1 h2
        exact ⟨cur,c1,c2,c3 (List.getElem?_eq_some_iff.1 h1).1⟩)
theorem Owned.call (w:World) (M:List Nat) (hM:MS M w) (gr:Nat) (l:List (Option Addr×Nat×Nat)) (gs:List Nat) (h:∀ q∈l,RowOk w q) (hp:l.Pairwise (fun p q=>∀ x∈blkL p.1,x∉blkL q.1)) (ho:∀ q∈l,gr∉blkL q.1) (hB:Box w gr (l.map fun q=>.slice q.1 q.2.1 q.2.2)) (hl:l.length≤1000) (hgs:∀ q∈l,∀ x∈blkL q.1,x∈gs) :
    To Tryz.prog 10 [.slice (some ⟨gr,0,none⟩) l.length l.length] w fun v w'=>v=.bool true∧Chg gs w w'∧MS M w':=by
  obtain ⟨h1,h2,h3⟩:=rows_of l h hp ho hB
  have e:(l.map rowOf).length=l.length:=by simp
  have:=Owned.go w M hM gr (l.map rowOf) h1 (by omega) h2
  rw [e] at this
  exact this.mono fun v w' ⟨e,hc,hm,_⟩=>⟨e,hc.mono (fun x hx=>.inl (h3 gs hgs x hx)),hm⟩

def vinerylaw11_MessageHeads.f (k:Nat) (a0:List Int):Option (Bool):=(vinerylaw11_small.f k ).bind fun t4=>(Lent.f a0).bind fun t6=>(message_Head.f k t6).bind fun t9=>(vineryref11_Head.f k a0).bind fun t18=>(Kept.f t6 a0).bind fun t27=>(vineryref10_SameNote.f t9.2.2.1 t18.2.2.1).bind fun t29=>some ((if (if (if (if (if (if t4=true then t27 else false)=true then t29 else false)=true then true else false)=true then (t9.1==t18.1) else false)=true then (t9.2.1==t18.2.1) else false)=true then (t9.2.2.2==t18.2.2.2) else false:Bool))
set_option maxRecDepth 100000 in
theorem vinerylaw11_MessageHeads.walk (w:World) (M:List Nat) (hM:MS M w) (a0:List Int) (ao1:Option Addr) (cap1:Nat) (f1:RSl (rInt .u8) 5 w M ao1 cap1 a0) (k:Nat) (r:Bool) (H:vinerylaw11_MessageHeads.f k a0=some r) :
    To Tryz.prog 3 [.slice ao1 a0.length cap1] w fun v w'=>v=.bool r∧Chg [] w w'∧MS (M) w':=by
 unfold vinerylaw11_MessageHeads.f at H;refine ent Tryz.func3 rfl [(0,.slice ao1 a0.length cap1)] rfl (by rfl) fun a ha=>?_;have hC:Chg [] w w:=Chg.refl _ _;refine sqd ha 1 [] [] fun a ha=>?_;refine wsr fun K3 hK3=>?_;obtain ⟨t4,H4,H⟩:=bind_some H;refine cL ha (vinerylaw11_small.walk w _ hM  k _ H4) ?_;rintro _ w4 ⟨rfl,hc4,hMn⟩ a ha;have o1:=oN M w;have o2:=oR M w;have f1:=f1.chg hc4 o1 o2;have hM:=hM.chg hc4;have hC:=hC.t0 hc4;refine sd ha 1 [] [(3,.bool t4)] fun a ha=>?_;refine hK3 _ _ ?_;refine wsr fun K5 hK5=>?_;refine sd ha 1 [] [(17,.slice ao1 a0.length cap1)] fun a ha=>?_;obtain ⟨t6,H6,H⟩:=bind_some H;refine cL ha (Lent.walk w4 _ hM a0 ao1 cap1 f1 _ H6) ?_;rintro _ w6 ⟨ao7,cap7,rfl,f7,ne_i7,hc6,hMn⟩ a ha;have o1:=oN M w4;have o2:Ok (blkL ao7++(M)) (M) w4.heap.size:=(Ok.app (fun x h=>.inr (ne_i7 x h)) (Ok.refl _ _))
 have f1:=f1.chg hc6 o1 o2;have p_i7_M:=pn (B:=M) hM ne_i7 fun _ hy=>hy;have e_i7:=eN hC ne_i7;have hM:MS (blkL ao7++(M)) w6:=(MS.app (fun x h=>hMn x (ml h)) (hM.chg hc6))
 have hC:=hC.t0 hc6;refine sd ha 1 [17] [(4,.slice ao7 t6.length cap7)] fun a ha=>?_;refine hK5 _ _ ?_;refine wsr fun K8 hK8=>?_;refine sd ha 1 [] [(20,.slice ao7 t6.length cap7)] fun a ha=>?_;have hML:MS (M) w6:=MS.rest hM (fun _ h=>mr (h));have oL:Ok (M) (blkL ao7++(M)) w6.heap.size:=(fun _ h=>.inl (mr (h)))
 obtain ⟨t9,H9,H⟩:=bind_some H;refine cL ha (message_Head.walk w6 _ hML t6 ao7 cap7 (Len.toRSl (T:=5) (M':=M) f7 oL (fun x hx hm=>p_i7_M x hx hm)) k _ H9) ?_;rintro _ w9 ⟨ao10,cap10,rfl,f10,ne_i10,hc9,hMn⟩ a ha;have o1:=oN (blkL ao7++(M)) w6;have o2:Ok (blkL ao10++(blkL ao7++(M))) (blkL ao7++(M)) w6.heap.size:=(Ok.app (fun x h=>.inr (ne_i10 x h)) (Ok.refl _ _))
 have f1:=f1.chg hc9 o1 o2;have f7:=f7.chg hc9 o1 o2 (fun _ _ h=>nomatch h) (fun _ h=>mr (ml h));have p_i10_i7:=pn (B:=(blkL ao7)) hM ne_i10 fun _ hy=>ml hy;have p_i10_M:=pn (B:=M) hM ne_i10 fun _ hy=>mr (hy);have e_i10:=eN hC ne_i10;have hM:MS (blkL ao10++(blkL ao7++(M))) w9:=(MS.app (fun x h=>hMn x (ml h)) (hM.chg hc9))
 have hC:=hC.t0 hc9;have f10:=Own.re (M':=blkL ao10++(blkL ao7++(M))) (fun _ _ _ _ _ h=>h) f10 (fun _ h=>ml h);refine sd ha 5 [20] [(22,.int .i64 t9.1),(23,.int .i64 t9.2.1),(24,.agg (cS_api_Note t9.2.2.1 ao10 cap10).toArray),(25,.int .i64 t9.2.2.2)] fun a ha=>?_;refine alE (cS_api_Note (⟨(0:Int),(0:Int),([]:List Int)⟩:S_api_Note) none 0) ha fun a w11 g12 hN13 ha=>?_;have o1:=oN (blkL ao10++(blkL ao7++(M))) w9;have o2:=oA hN13 (blkL ao10++(blkL ao7++(M)));have f1:=f1.chg hN13.chg o1 o2;have f7:=f7.chg hN13.chg o1 o2 (fun _ _ h=>nomatch h) (fun _ h=>mr (mr (ml h)));have f10:=f10.chg hN13.chg o1 o2 (fun _ _ h=>nomatch h) (fun _ h=>mr (ml h));have p_i14_i10:=pn (B:=(blkL ao10)) hM (hN13.ge1) fun _ hy=>ml hy;have p_i14_i7:=pn (B:=(blkL ao7)) hM (hN13.ge1) fun _ hy=>mr (ml hy);have e_i14:=eN hC (hN13.ge1);have hM:=MS.app hN13.ms (hM.chg hN13.chg);have hC:=hC.t0 hN13.chg;have hBg12:=hN13.box;refine sd ha 2 [22,23] [(5,.int .i64 t9.1),(6,.int .i64 t9.2.1),(7,pt g12 0)] fun a ha=>?_;refine stE (cS_api_Note t9.2.2.1 ao10 cap10) ha hBg12 fun a w15 ha hBg12 hc16 _=>?_;have o1:Ok [g12] ([g12]++(blkL ao10++(blkL ao7++(M)))) w11.heap.size:=(fun _ h=>.inl (ml h))
 have o2:=oR ([g12]++(blkL ao10++(blkL ao7++(M)))) w11;have f1:=f1.chg hc16 o1 o2;have f7:=f7.chg hc16 o1 o2 (fun x (hx:x∈blkL ao7) (hy:x∈[g12])=>p_i14_i7 x hy hx) (fun _ h=>mr (mr (ml h)));have f10:=f10.chg hc16 o1 o2 (fun x (hx:x∈blkL ao10) (hy:x∈[g12])=>p_i14_i10 x hy hx) (fun _ h=>mr (ml h));have hM:=hM.chg hc16;have hC:=hC.t1 hc16 e_i14;refine sd ha 1 [24,25] [(8,.int .i64 t9.2.2.2)] fun a ha=>?_;refine hK8 _ _ ?_;refine wsr fun K17 hK17=>?_;refine sd ha 1 [] [(27,.slice ao1 a0.length cap1)] fun a ha=>?_;obtain ⟨t18,H18,H⟩:=bind_some H;refine cL ha (vineryref11_Head.walk w15 _ hM a0 ao1 cap1 f1 k _ H18) ?_;rintro _ w18 ⟨ao19,cap19,rfl,f19,ne_i19,hc18,hMn⟩ a ha;have o1:=oN ([g12]++(blkL ao10++(blkL ao7++(M)))) w15;have o2:Ok (blkL ao19++([g12]++(blkL ao10++(blkL ao7++(M))))) ([g12]++(blkL ao10++(blkL ao7++(M)))) w15.heap.size:=(Ok.app (fun x h=>.inr (ne_i19 x h)) (Ok.refl _ _))
 have f1:=f1.chg hc18 o1 o2;have f7:=f7.chg hc18 o1 o2 (fun _ _ h=>nomatch h) (fun _ h=>mr (mr (mr (ml h))));have f10:=f10.chg hc18 o1 o2 (fun _ _ h=>nomatch h) (fun _ h=>mr (mr (ml h)));have hBg12:=hBg12.c0 hc18;have p_i19_i14:=pn (B:=[g12]) hM ne_i19 fun _ hy=>ml hy;have p_i19_i7:=pn (B:=(blkL ao7)) hM ne_i19 fun _ hy=>mr (mr (ml hy));have p_i19_M:=pn (B:=M) hM ne_i19 fun _ hy=>mr (mr (mr (hy)));have hM:MS (blkL ao19++([g12]++(blkL ao10++(blkL ao7++(M))))) w18:=(MS.app (fun x h=>hMn x (ml h)) (hM.chg hc18))
 have hC:=hC.t0 hc18;refine sd ha 5 [27] [(29,.int .i64 t18.1),(30,.int .i64 t18.2.1),(31,.agg (cS_api_Note t18.2.2.1 ao19 cap19).toArray),(32,.int .i64 t18.2.2.2)] fun a ha=>?_;refine alE (cS_api_Note (⟨(0:Int),(0:Int),([]:List Int)⟩:S_api_Note) none 0) ha fun a w20 g21 hN22 ha=>?_;have o1:=oN (blkL ao19++([g12]++(blkL ao10++(blkL ao7++(M))))) w18;have o2:=oA hN22 (blkL ao19++([g12]++(blkL ao10++(blkL ao7++(M)))));have f1:=f1.chg hN22.chg o1 o2;have f7:=f7.chg hN22.chg o1 o2 (fun _ _ h=>nomatch h) (fun _ h=>mr (mr (mr (mr (ml h)))));have f19:=f19.chg hN22.chg o1 o2 (fun _ _ h=>nomatch h) (fun _ h=>mr (ml h));have f10:=f10.chg hN22.chg o1 o2 (fun _ _ h=>nomatch h) (fun _ h=>mr (mr (mr (ml h))));have hBg12:=hBg12.c0 hN22.chg;have p_i23_i19:=pn (B:=(blkL ao19)) hM (hN22.ge1) fun _ hy=>ml hy;have p_i23_i14:=pn (B:=[g12]) hM (hN22.ge1) fun _ hy=>mr (ml hy);have p_i23_i10:=pn (B:=(blkL ao10)) hM (hN22.ge1) fun _ hy=>mr (mr (ml hy));have p_i23_i7:=pn (B:=(blkL ao7)) hM (hN22.ge1) fun _ hy=>mr (mr (mr (ml hy)));have e_i23:=eN hC (hN22.ge1);have hM:=MS.app hN22.ms (hM.chg hN22.chg);have hC:=hC.t0 hN22.chg;have hBg21:=hN22.box;refine sd ha 2 [29,30] [(9,.int .i64 t18.1),(10,.int .i64 t18.2.1),(11,pt g21 0)] fun a ha=>?_;refine stE (cS_api_Note t18.2.2.1 ao19 cap19) ha hBg21 fun a w24 ha hBg21 hc25 _=>?_;have o1:Ok [g21] ([g21]++(blkL ao19++([g12]++(blkL ao10++(blkL ao7++(M)))))) w20.heap.size:=(fun _ h=>.inl (ml h))
 have o2:=oR ([g21]++(blkL ao19++([g12]++(blkL ao10++(blkL ao7++(M)))))) w20;have f1:=f1.chg hc25 o1 o2;have f7:=f7.chg hc25 o1 o2 (fun x (hx:x∈blkL ao7) (hy:x∈[g21])=>p_i23_i7 x hy hx) (fun _ h=>mr (mr (mr (mr (ml h)))));have f19:=f19.chg hc25 o1 o2 (fun x (hx:x∈blkL ao19) (hy:x∈[g21])=>p_i23_i19 x hy hx) (fun _ h=>mr (ml h));have f10:=f10.chg hc25 o1 o2 (fun x (hx:x∈blkL ao10) (hy:x∈[g21])=>p_i23_i10 x hy hx) (fun _ h=>mr (mr (mr (ml h))));have hBg12:=hBg12.chg hc25 ((fun x (hx:x∈[g12]) (hy:x∈[g21])=>p_i23_i14 x hy hx) g12 (by simp));have hM:=hM.chg hc25;have hC:=hC.t1 hc25 e_i23;refine sd ha 1 [31,32] [(12,.int .i64 t18.2.2.2)] fun a ha=>?_;refine hK17 _ _ ?_;refine wsr fun K26 hK26=>?_;refine sd ha 2 [0] [(33,.slice ao7 t6.length cap7),(34,.slice ao1 a0.length cap1)] fun a ha=>?_;obtain ⟨t27,H27,H⟩:=bind_some H;refine cL ha (Kept.walk w24 _ hM t6 ao7 cap7 f7 a0 ao1 cap1 f1 _ H27) ?_;rintro _ w27 ⟨rfl,hc27,hMn⟩ a ha;have o1:=oN ([g21]++(blkL ao19++([g12]++(blkL ao10++(blkL ao7++(M)))))) w24;have o2:=oR ([g21]++(blkL ao19++([g12]++(blkL ao10++(blkL ao7++(M)))))) w24;have f7:=f7.chg hc27 o1 o2 (fun _ _ h=>nomatch h) (fun _ h=>mr (mr (mr (mr (ml h)))));have f10:=f10.chg hc27 o1 o2 (fun _ _ h=>nomatch h) (fun _ h=>mr (mr (mr (ml h))));have f19:=f19.chg hc27 o1 o2 (fun _ _ h=>nomatch h) (fun _ h=>mr (ml h));have hBg12:=hBg12.c0 hc27;have hBg21:=hBg21.c0 hc27;have hM:=hM.chg hc27;have hC:=hC.t0 hc27;refine sd ha 1 [33,34] [(13,.bool t27)] fun a ha=>?_;refine hK26 _ _ ?_;refine wsr fun K28 hK28=>?_;refine ldE (Box.cells hBg12) ha fun a ha=>?_;refine ldE (Box.cells hBg21) ha fun a ha=>?_;have hML:MS ([g21]++([g12]++(blkL ao7++(M)))) w27:=MS.rest hM (fun _ h=>(List.mem_append.1 h).elim (fun h=>ml h) (fun h=>(List.mem_append.1 h).elim (fun h=>mr (mr (ml h))) (fun h=>(List.mem_append.1 h).elim (fun h=>mr (mr (mr (mr (ml h))))) (fun h=>mr (mr (mr (mr (mr (h)))))))));have oL:Ok ([g21]++([g12]++(blkL ao7++(M)))) ([g21]++(blkL ao19++([g12]++(blkL ao10++(blkL ao7++(M)))))) w27.heap.size:=(Ok.app (fun _ h=>.inl (ml h)) (Ok.app (fun _ h=>.inl (mr (mr (ml h)))) (fun _ h=>.inl (mr (mr (mr (mr (h))))))))
 obtain ⟨t29,H29,H⟩:=bind_some H;refine cL ha (vineryref10_SameNote.walk w27 _ hML t9.2.2.1 ao10 cap10 (Own.toRSl (M':=[g21]++([g12]++(blkL ao7++(M)))) f10 oL (fun x hx hm=>(List.mem_append.1 hm).elim (fun h=>(fun x hx hy=>p_i23_i10 x hy hx) x hx h) (fun h=>(List.mem_append.1 h).elim (fun h=>(fun x hx hy=>p_i14_i10 x hy hx) x hx h) (fun h=>(List.mem_append.1 h).elim (fun h=>p_i10_i7 x hx h) (fun h=>p_i10_M x hx h))))) t18.2.2.1 ao19 cap19 (Own.toRSl (M':=[g21]++([g12]++(blkL ao7++(M)))) f19 oL (fun x hx hm=>(List.mem_append.1 hm).elim (fun h=>(fun x hx hy=>p_i23_i19 x hy hx) x hx h) (fun h=>(List.mem_append.1 h).elim (fun h=>p_i19_i14 x hx h) (fun h=>(List.mem_append.1 h).elim (fun h=>p_i19_i7 x hx h) (fun h=>p_i19_M x hx h))))) _ H29) ?_;rintro _ w29 ⟨rfl,hc29,hMn⟩ a ha;have o1:=oN ([g21]++(blkL ao19++([g12]++(blkL ao10++(blkL ao7++(M)))))) w27;have o2:=oR ([g21]++(blkL ao19++([g12]++(blkL ao10++(blkL ao7++(M)))))) w27;have f7:=f7.chg hc29 o1 o2 (fun _ _ h=>nomatch h) (fun _ h=>mr (mr (mr (mr (ml h)))));have f10:=f10.chg hc29 o1 o2 (fun _ _ h=>nomatch h) (fun _ h=>mr (mr (mr (ml h))));have hBg12:=hBg12.c0 hc29;have hM:=hM.chg hc29;have hC:=hC.t0 hc29;refine sd ha 1 [11] [(14,.bool t29)] fun a ha=>?_;refine hK28 _ _ ?_;refine wsr fun K30 hK30=>?_;refine sd ha 1 [7] [(39,pt g12 2)] fun a ha=>?_;refine ld (v:=.slice ao10 t9.2.2.1.Data.length cap10) ha rfl (by kernel_rfl) rfl rfl rfl (hBg12.cell' (o:=2) rfl (by kernel_rfl)) fun a ha=>?_;refine sd ha 1 [4,39] [(40,.slice ao10 t9.2.2.1.Data.length cap10),(41,.slice ao7 t6.length cap7)] fun a ha=>?_;refine bsl (vals:=([.slice ao10 t9.2.2.1.Data.length cap10,.slice ao7 t6.length cap7]:List Value)) (T:=22) ha rfl (([.slice ao10 t9.2.2.1.Data.length cap10]:List Value)++(([.slice ao7 t6.length cap7]:List Value)++([]:List Value))) (fun w=>by kernel_rfl) rfl rfl rfl fun a w31 g32 hN33 ha=>?_;have hgr34:∀ x∈([g21]++(blkL ao19++([g12]++(blkL ao10++(blkL ao7++(M)))))),x≠g32:=fun x h e=>absurd (hM x h) (Nat.not_lt.2 (by rw [e];exact hN33.ge));have o1:=oN ([g21]++(blkL ao19++([g12]++(blkL ao10++(blkL ao7++(M)))))) w29;have o2:=oR ([g21]++(blkL ao19++([g12]++(blkL ao10++(blkL ao7++(M)))))) w29;have f10:=f10.chg hN33.chg o1 o2 (fun _ _ h=>nomatch h) (fun _ h=>mr (mr (mr (ml h))));have f7:=f7.chg hN33.chg o1 o2 (fun _ _ h=>nomatch h) (fun _ h=>mr (mr (mr (mr (ml h)))));have hM:=hM.chg hN33.chg;have hC:=hC.t0 hN33.chg;have hB34:=hN33.box;refine cL ha (Owned.call w31 _ hM g32 [(ao10,t9.2.2.1.Data.length,cap10),(ao7,t6.length,cap7)] (blkL ao10++blkL ao7) (List.forall_mem_cons.2 ⟨f10.rowOk,(List.forall_mem_cons.2 ⟨f7.rowOk,(fun _ h=>nomatch h)⟩)⟩) (List.Pairwise.cons (List.forall_mem_cons.2 ⟨(p_i10_i7),(fun _ h=>nomatch h)⟩) (List.Pairwise.cons (fun _ h=>nomatch h) List.Pairwise.nil)) (List.forall_mem_cons.2 ⟨(fun h=>hgr34 _ (mr (mr (mr (ml h)))) rfl),(List.forall_mem_cons.2 ⟨(fun h=>hgr34 _ (mr (mr (mr (mr (ml h))))) rfl),(fun _ h=>nomatch h)⟩)⟩) hB34 (Nat.le_of_ble_eq_true rfl) (List.forall_mem_cons.2 ⟨(fun _ h=>(List.mem_append_left _ h)),(List.forall_mem_cons.2 ⟨(fun _ h=>(List.mem_append_right _ h)),(fun _ h=>nomatch h)⟩)⟩)) ?_;rintro _ w35 ⟨rfl,hc35,_⟩ a ha;have hM:MS ([g21]++(blkL ao19++([g12]++(M)))) w35:=(MS.app (fun x h=>hM.chg hc35 x (ml h)) (MS.app (fun x h=>hM.chg hc35 x (mr (ml h))) (MS.app (fun x h=>hM.chg hc35 x (mr (mr (ml h)))) (fun x h=>hM.chg hc35 x (mr (mr (mr (mr (mr (h))))))))))
 have hC:=hC.trans hc35 (Ok.app (fun x h=>.inr (e_i10 x h)) (fun x h=>.inr (e_i7 x h)));refine sd ha 1 [40,41] [(15,.bool true)] fun a ha=>?_;refine hK30 _ _ ?_;refine sq ha 26 [(2,.bool (if (if (if (if (if (if t4=true then t27 else false)=true then t29 else false)=true then true else false)=true then (t9.1==t18.1) else false)=true then (t9.2.1==t18.2.1) else false)=true then (t9.2.2.2==t18.2.2.2) else false))] fun a ha=>?_;refine wrt ?_;have hM:MS M w35:=hM.sb fun _ h=>mr (mr (mr (h)));obtain rfl:=oj H;refine rt1 ha rfl rfl ?_;exact ⟨rfl,hC,hM⟩
end Go.E
