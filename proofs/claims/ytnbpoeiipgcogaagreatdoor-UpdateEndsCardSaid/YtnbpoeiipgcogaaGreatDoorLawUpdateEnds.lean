/- The plain law: what the walk computes is true, whatever the input. -/
import Derived.Test.YtnbpoeiipgcogaaGreatDoorGenUpdateEnds
import Derived.Test.YtnbpoeiipgcogaaGreatDoorEngR
set_option linter.unusedVariables false
set_option linter.unusedSimpArgs false
namespace Go.E
def tE (a b:Int):S_api_Table:=⟨a,b,⟨0,List.replicate 16 0⟩,[],[]⟩
def uE (a b:Int):S_api_Update:=⟨⟨0,[],-1,-1,⟨0,List.replicate 16 0⟩,[],[],[]⟩,[],[tE a b]⟩
theorem ends_known:vinerylaw10_UpdateEnds.f 50 4 5=some true∧vinerylaw10_UpdateEnds.f 50 4 128=some true∧vinerylaw10_UpdateEnds.f 50 16 5=some true∧vinerylaw10_UpdateEnds.f 50 16 128=some true:=⟨by kernel_rfl,by kernel_rfl,by kernel_rfl,by kernel_rfl⟩
theorem ends_small:vinerylaw10_small.f 50=some true:=by kernel_rfl
theorem ends_empty:update_Empty.f=some ⟨⟨0,[],-1,-1,⟨0,List.replicate 16 0⟩,[],[],[]⟩,[],[]⟩:=by kernel_rfl
theorem ends_addr:addr_Right.f 50 ⟨0,List.replicate 16 0⟩=some true:=by kernel_rfl
theorem ends_addr2:addr_Right.f 50 ⟨0,[0,0,0,0,0,0,0,0,0,0,0,0,0,0,0,0]⟩=some true:=ends_addr
theorem ends_wrong (a b:Int) (h:¬ ((a=4∨a=16)∧(b=5∨b=128))):update_wrong.f 50 (tE a b) false=some true:=by
 unfold update_wrong.f tE
 by_cases h1:a=4∨a=16
 ·have hb:¬ (b=5∨b=128):=fun hb=>h ⟨h1,hb⟩
  simp only [not_or] at hb
  rcases h1 with rfl | rfl
  ·simp [ends_addr2,hb.1,hb.2]
  ·simp [ends_addr2,hb.1,hb.2]
 ·simp only [not_or] at h1
  simp [h1.1,h1.2]
theorem ends_right (a b:Int) (h:¬ ((a=4∨a=16)∧(b=5∨b=128))):update_Right.f 50 (uE a b)=some false:=by
 have e1:attr_Right.f 50 (uE a b).Attrs=some true:=by kernel_rfl
 have e2:attr_None.f=some (uE a b).Attrs:=by kernel_rfl
 have e3:attr_Same.f 50 (uE a b).Attrs (uE a b).Attrs=some true:=by kernel_rfl
 have e4:api_Table_update_Right_1.f 50 (uE a b).Reach=some false:=by kernel_rfl
 have e5:api_Table_update_Right_2.f 50 (uE a b).Unreach=some true:=by
  have e:api_Table_85_update_Right_2.l0 50 [tE a b] 50 0=some (.inl 0):=by
   rw [show (50:Nat)=49+1 from rfl,api_Table_85_update_Right_2.l0,if_pos (by simp),if_pos (by simp),show rd [tE a b] 0=tE a b from rfl]
   unfold update_Right_2.f
   rw [show (49+1:Nat)=50 from rfl,ends_wrong a b h]
   rfl
  unfold api_Table_update_Right_2.f api_Table_85_update_Right_2.f
  rw [show (uE a b).Unreach=[tE a b] from rfl,e]
  rfl
 unfold update_Right.f
 rw [e1,e2]
 simp only [Option.bind_some,e3,e4,e5]
 rfl
theorem UpdateEnds.law (size:Int) (h1:okI .i64 size) (safi:Int) (h2:okI .i64 safi):∃ k,vinerylaw10_UpdateEnds.f k size safi=some true:=by
 refine ⟨50,?_⟩
 by_cases h:(size=4∨size=16)∧(safi=5∨safi=128)
 ·obtain ⟨h1,h2⟩:=h
  obtain ⟨k1,k2,k3,k4⟩:=ends_known
  rcases h1 with rfl | rfl<;>rcases h2 with rfl | rfl
  ·exact k1
  ·exact k2
  ·exact k3
  ·exact k4
 ·unfold vinerylaw10_UpdateEnds.f
  rw [ends_small,ends_empty]
  simp only [Option.bind_some]
  have er:=ends_right size safi h
  have eb:update_Bytes.f 50 (uE size safi)=some ([],1):=by
   unfold update_Bytes.f
   rw [er]
   rfl
  rw [show (⟨⟨0,[],-1,-1,⟨0,List.replicate 16 0⟩,[],[],[]⟩,[],([(⟨size,safi,(⟨(0:Int),(List.replicate 16 (0:Int))⟩:S_api_Addr),([]:List S_api_Mroute),([]:List S_api_Uroute)⟩:S_api_Table)]:List S_api_Table)⟩:S_api_Update)=uE size safi from rfl,eb,er]
  have hc:(if (if (size==(4:Int))=true then true else (size==(16:Int)))=true then (if (safi==(5:Int))=true then true else (safi==(128:Int))) else false)=false:=by
   by_cases a1:size=4<;>by_cases a2:size=16<;>by_cases b1:safi=5<;>by_cases b2:safi=128<;>simp_all
  rw [hc]
  rfl
end Go.E
