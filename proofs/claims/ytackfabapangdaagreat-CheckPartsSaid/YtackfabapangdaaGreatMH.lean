/- Parts of the proof: Law22c. -/
import Derived.Test.YtackfabapangdaaGreatMG
set_option linter.all false
set_option maxHeartbeats 4000000
set_option maxRecDepth 4000
set_option maxHeartbeats 1000000
namespace Go.Proofs.YtackfabapangdaaGreat
open Go Go.Proofs.YtackfabapangdaaGreat.R
theorem claim_ne (u l:Int):¬(claimR u l).status=5:=by
 unfold claimR
 split
 ·show ¬(2:Int)=5
  decide
 ·split
  ·show ¬(3:Int)=5
   decide
  ·show ¬(4:Int)=5
   decide
theorem lcparts_pure (i t c:List Nat) (hi:i.length<2^63) (hi8:∀c∈i,c<256) (ht:t.length<2^63) (ht8:∀c∈t,c<256) (hc:c.length<2^63) (hc8:∀x∈c,x<256):Pure P 5 [.t (.sl (byt i)),.t (.sl (byt t)),.t (.sl (byt c))] (.b true):=by
 refine pure_of Tryz.func5 rfl rfl (by simp [Tryz.f5]) (by simp [bnd,bnd.bndL]) (by simp [bnd,bnd.bndL]) fun B hB hnx=>?_
 simp only [Tryz.f5] at hB ⊢
 have hf:=few22_pure i t c hi hi8
 have h1:=parseB_pure i hi hi8
 have hlen:=parseR_len i
 have h2:=decode_pure c hc hc8
 have hgood:=dec_once hc8
 have h4:=pparse_pure t ht ht8
 obtain ⟨l1,l2⟩:=planR_len t
 have h5:=cost_pure (parseR i).1 (planR t).1 (by omega) (by omega) fun r hr=>by have:=l2 r hr;omega
 have h6:=ccheck_pure i t c hi hi8 ht ht8 hc hc8
 have h3:=fun (p:CPrf) (hp:p.good)=>check_pure (parseR i).1 p.pf (by omega) (good_fine hp)
 generalize hK:checkR i t c=K at *
 rw [checkR,Inst.costT] at hK
 clear l1 l2 hlen
 generalize few22 i t c=fw at *
 generalize (parseR i).1=x at *
 generalize (parseR i).2=e at *
 generalize (dec c).1=p at *
 generalize (dec c).2=f at *
 generalize (planR t).1=q at *
 generalize (planR t).2=g at *
 generalize x.cost q=w at *
 rw [cbyt_eq,pf_a] at h2
 have hun:=unbytes_byt t
 refine K_run hB 100 ?_
 simp [go_sem]
 refine K_call rfl rfl rfl (args:=[]) (f:=15) (by simp [go_sem]) (by simp [go_sem,hB]) ((awake22_pure).spec _ _) ?_
 refine K_run hB 100 ?_
 simp [go_sem]
 refine K_call rfl rfl rfl (args:=[.t (.sl (byt i)),.t (.sl (byt t)),.t (.sl (byt c))]) (f:=16) (by simp [go_sem]) (by simp [go_sem,hB]) ((hf).spec _ _) ?_
 cases fw with
 |false=>
  refine K_run hB 100 ?_
  simp [go_sem]
 |true=>
  refine K_run hB 100 ?_
  simp [go_sem]
  refine K_call rfl rfl rfl (args:=[.t (.sl (byt i))]) (f:=21) (by simp [go_sem]) (by simp [go_sem,hB]) ((h1).spec _ _) ?_
  refine K_run hB 100 ?_
  simp [go_sem,Inst.a]
  refine K_call rfl rfl rfl (args:=[.t (.sl (byt c))]) (f:=25) (by simp [go_sem]) (by simp [go_sem,hB]) ((h2).spec _ _) ?_
  refine K_run hB 100 ?_
  simp [go_sem,Prf.a,Prf.cs]
  refine K_call rfl rfl rfl (args:=[.t (.sl (byt t))]) (f:=23) (by simp [go_sem]) (by simp [go_sem,hB]) ((h4).spec _ _) ?_
  refine K_run hB 100 ?_
  simp [go_sem,Inst.a]
  refine K_call rfl rfl rfl (args:=[x.a,.agg [.t (.sl (q.map rowT))]]) (f:=22) (by simp [go_sem,Inst.a]) (by simp [go_sem,hB]) ((h5).spec _ _) ?_
  refine K_run hB 100 ?_
  simp [go_sem]
  refine K_drawn [] rfl (by rw [hB];kernel_rfl) ?_
  refine K_run hB 100 ?_
  simp [go_sem,hun]
  refine K_dCallP rfl rfl rfl (args:=[]) (f:=19) (by simp [go_sem]) (noplan_pure) ?_
  have bad5:∀(h:K=⟨5,0,0⟩),K.status=5∧K.low=0∧K.up=0:=fun h=>by rw [h];exact ⟨rfl,rfl,rfl⟩
  by_cases cn:t=[48,10]
  ·have cn2:t.map UInt8.ofNat=[48,10]:=by rw [cn];rfl
   by_cases c1:e=0
   rotate_left
   ·obtain ⟨b1,b2,b3⟩:=bad5 (by rw [←hK,if_pos c1])
    refine K_run hB 100 ?_
    simp [go_sem,unbytes_byt,cn2,c1]
    refine K_call rfl rfl rfl (args:=[.t (.sl (byt i)),.t (.sl (byt t)),.t (.sl (byt c))]) (f:=17) (by simp [go_sem]) (by simp [go_sem,hB]) ((h6).spec _ _) ?_
    refine K_run hB 100 ?_
    simp [go_sem,Clm.a,Clm.cs,b1,b2,b3]
   by_cases c2:f=0
   rotate_left
   ·obtain ⟨b1,b2,b3⟩:=bad5 (by rw [←hK,if_neg (fun h=>h c1),if_pos c2])
    refine K_run hB 100 ?_
    simp [go_sem,unbytes_byt,cn2,c1,c2]
    refine K_call rfl rfl rfl (args:=[.t (.sl (byt i)),.t (.sl (byt t)),.t (.sl (byt c))]) (f:=17) (by simp [go_sem]) (by simp [go_sem,hB]) ((h6).spec _ _) ?_
    refine K_run hB 100 ?_
    simp [go_sem,Clm.a,Clm.cs,b1,b2,b3]
   have h7:=h3 p (hgood c2).2
   generalize x.checkE p.pf=v at *
   refine K_run hB 100 ?_
   simp [go_sem,unbytes_byt,cn2,c1,c2]
   refine K_call rfl rfl rfl (args:=[x.a,p.pf.a]) (f:=26) (by simp [go_sem,Inst.a,Prf.a,Prf.cs]) (by simp [go_sem,hB]) ((h7).spec _ _) ?_
   by_cases c3:v=0
   rotate_left
   ·obtain ⟨b1,b2,b3⟩:=bad5 (by rw [←hK,if_neg (fun h=>h c1),if_neg (fun h=>h c2),if_pos c3])
    refine K_run hB 100 ?_
    simp [go_sem,c3]
    refine K_call rfl rfl rfl (args:=[.t (.sl (byt i)),.t (.sl (byt t)),.t (.sl (byt c))]) (f:=17) (by simp [go_sem]) (by simp [go_sem,hB]) ((h6).spec _ _) ?_
    refine K_run hB 100 ?_
    simp [go_sem,Clm.a,Clm.cs,b1,b2,b3]
   have b1:¬K.status=5:=by
    rw [←hK,if_neg (fun h=>h c1),if_neg (fun h=>h c2),if_neg (fun h=>h c3),if_pos cn,if_pos rfl]
    exact claim_ne _ _
   refine K_run hB 100 ?_
   simp [go_sem,c3]
   refine K_call rfl rfl rfl (args:=[.t (.sl (byt i)),.t (.sl (byt t)),.t (.sl (byt c))]) (f:=17) (by simp [go_sem]) (by simp [go_sem,hB]) ((h6).spec _ _) ?_
   refine K_run hB 100 ?_
   simp [go_sem,Clm.a,Clm.cs,b1]
  ·have cn2:¬t.map UInt8.ofNat=[48,10]:=fun h=>cn ((u8_inj (b:=[48,10]) ht8 (by decide)).1 h)
   have cn3:(t.map UInt8.ofNat==[48,10])=false:=beq_eq_false_iff_ne.2 cn2
   rw [if_neg cn] at hK
   by_cases c1:e=0
   rotate_left
   ·obtain ⟨b1,b2,b3⟩:=bad5 (by rw [←hK,if_pos c1])
    refine K_run hB 100 ?_
    simp [go_sem,unbytes_byt,cn2,cn3,c1]
    refine K_call rfl rfl rfl (args:=[.t (.sl (byt i)),.t (.sl (byt t)),.t (.sl (byt c))]) (f:=17) (by simp [go_sem]) (by simp [go_sem,hB]) ((h6).spec _ _) ?_
    refine K_run hB 100 ?_
    simp [go_sem,Clm.a,Clm.cs,b1,b2,b3]
   by_cases c2:f=0
   rotate_left
   ·obtain ⟨b1,b2,b3⟩:=bad5 (by rw [←hK,if_neg (fun h=>h c1),if_pos c2])
    refine K_run hB 100 ?_
    simp [go_sem,unbytes_byt,cn2,cn3,c1,c2]
    refine K_call rfl rfl rfl (args:=[.t (.sl (byt i)),.t (.sl (byt t)),.t (.sl (byt c))]) (f:=17) (by simp [go_sem]) (by simp [go_sem,hB]) ((h6).spec _ _) ?_
    refine K_run hB 100 ?_
    simp [go_sem,Clm.a,Clm.cs,b1,b2,b3]
   have h7:=h3 p (hgood c2).2
   generalize x.checkE p.pf=v at *
   refine K_run hB 100 ?_
   simp [go_sem,unbytes_byt,cn2,cn3,c1,c2]
   refine K_call rfl rfl rfl (args:=[x.a,p.pf.a]) (f:=26) (by simp [go_sem,Inst.a,Prf.a,Prf.cs]) (by simp [go_sem,hB]) ((h7).spec _ _) ?_
   by_cases c3:v=0
   rotate_left
   ·obtain ⟨b1,b2,b3⟩:=bad5 (by rw [←hK,if_neg (fun h=>h c1),if_neg (fun h=>h c2),if_pos c3])
    refine K_run hB 100 ?_
    simp [go_sem,cn2,cn3,c3]
    refine K_call rfl rfl rfl (args:=[.t (.sl (byt i)),.t (.sl (byt t)),.t (.sl (byt c))]) (f:=17) (by simp [go_sem]) (by simp [go_sem,hB]) ((h6).spec _ _) ?_
    refine K_run hB 100 ?_
    simp [go_sem,Clm.a,Clm.cs,b1,b2,b3]
   rw [if_neg (fun h=>h c1),if_neg (fun h=>h c2),if_neg (fun h=>h c3)] at hK
   by_cases c4:g=0
   rotate_left
   ·obtain ⟨b1,b2,b3⟩:=bad5 (by rw [←hK,if_pos c4,if_neg c4])
    refine K_run hB 100 ?_
    simp [go_sem,cn2,cn3,c3,c4]
    refine K_call rfl rfl rfl (args:=[.t (.sl (byt i)),.t (.sl (byt t)),.t (.sl (byt c))]) (f:=17) (by simp [go_sem]) (by simp [go_sem,hB]) ((h6).spec _ _) ?_
    refine K_run hB 100 ?_
    simp [go_sem,Clm.a,Clm.cs,b1,b2,b3]
   rw [if_neg (show ¬(g≠0) from fun h=>h c4)] at hK
   by_cases c5:w.2=0
   rotate_left
   ·obtain ⟨b1,b2,b3⟩:=bad5 (by rw [←hK,if_neg c5])
    refine K_run hB 100 ?_
    simp [go_sem,cn2,cn3,c3,c4,c5]
    refine K_call rfl rfl rfl (args:=[.t (.sl (byt i)),.t (.sl (byt t)),.t (.sl (byt c))]) (f:=17) (by simp [go_sem]) (by simp [go_sem,hB]) ((h6).spec _ _) ?_
    refine K_run hB 100 ?_
    simp [go_sem,Clm.a,Clm.cs,b1,b2,b3]
   have b1:¬K.status=5:=by
    rw [←hK,if_pos c5]
    exact claim_ne _ _
   refine K_run hB 100 ?_
   simp [go_sem,cn2,cn3,c3,c4,c5]
   refine K_call rfl rfl rfl (args:=[.t (.sl (byt i)),.t (.sl (byt t)),.t (.sl (byt c))]) (f:=17) (by simp [go_sem]) (by simp [go_sem,hB]) ((h6).spec _ _) ?_
   refine K_run hB 100 ?_
   simp [go_sem,Clm.a,Clm.cs,b1]
end Go.Proofs.YtackfabapangdaaGreat
