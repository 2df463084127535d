/- Parts of the proof: Law23c. -/
import Derived.Test.YtnoifgjiipgpoaaGreatDoorMJ
set_option linter.all false
set_option maxHeartbeats 4000000
set_option maxRecDepth 4000
set_option maxHeartbeats 1000000
namespace Go.Proofs.YtnoifgjiipgpoaaGreatDoor
open Go Go.Proofs.YtnoifgjiipgpoaaGreatDoor.R
abbrev cmpS:AV:=.fn (.func 55) [] []
theorem eqrow_pure (a:List Int) (ha:a.length<2^62):Pure P 55 [.t (.sl (ints a)),.t (.sl (ints a))] (.b true):=by
 have he:=eqints_pure a a ha ha
 rw [decide_eq_true rfl] at he
 refine pure_of Tryz.func55 rfl rfl (by simp [Tryz.f55]) (by simp [bnd,bnd.bndL]) (by simp [bnd,bnd.bndL]) fun B hB hnx=>?_
 simp only [Tryz.f55] at hB ⊢
 refine K_run hB 100 ?_
 simp [go_sem]
 refine K_call rfl rfl rfl (args:=[.t (.sl (ints a)),.t (.sl (ints a))]) (f:=56) (by simp [go_sem]) (by simp [go_sem,hB]) ((he).spec _ _) ?_
 refine K_run hB 100 ?_
 simp [go_sem]
theorem eqrows_pure (l:List (List Int)) (hl:l.length<2^31) (hr:∀r∈l,r.length<2^62):Pure P 53 [.t (.sl (l.map rowT)),.t (.sl (l.map rowT)),cmpS] (.b true):=by
 refine pure_of Tryz.func53 rfl rfl (by simp [Tryz.f53]) (by simp [bnd,bnd.bndL]) (by simp [bnd,bnd.bndL]) fun B hB hnx=>?_
 simp only [Tryz.f53] at hB ⊢
 have hll:(l.map rowT).length=l.length:=List.length_map _
 refine K_run hB 100 ?_
 simp [go_sem,hll]
 refine K_loopP (α:=Nat) (fun k=>k≤l.length) (fun k=>⟨sl [(0,.t (.sl (l.map rowT))),(1,.t (.sl (l.map rowT))),(2,cmpS),(15,.t (.sl (l.map rowT))),(16,.i l.length),(17,.i k)],_,_⟩) (fun k=>l.length-k) 0 (Nat.zero_le _) (Imp.slots (by simp [go_sem]) rfl rfl) ?_
 rintro k g
 by_cases hk:k<l.length
 ·have hkk:IntKind.i64.wrap ((k:Int)+1)=((k+1:Nat):Int):=by rw [w64 ((k:Int)+1) (by omega)];rfl
  have hget:∀h,(l.map rowT)[k]'h=rowT l[k]:=fun h=>by simp
  have he:=eqrow_pure l[k] (hr _ (List.getElem_mem _))
  generalize l[k]=r at *
  refine K_run hB 60 ?_
  simp [go_sem,hll,hk,hget,rowT]
  refine K_call rfl rfl rfl (args:=[.t (.sl (ints r)),.t (.sl (ints r))]) (f:=55) (by simp [go_sem]) (by simp [go_sem,hB]) ((he).spec _ _) ?_
  refine K_run hB 60 ?_
  simp [go_sem,hkk]
  exact Next.mk (k+1) hk (Imp.slots (by simp [go_sem]) rfl rfl) (by omega)
 ·have:k=l.length:=by omega
  subst this
  refine K_run hB 60 ?_
  simp [go_sem]
theorem plsame_pure (l m:List (List Int)) (h:sortR l=sortR m) (hl:l.length<20) (hr:∀r∈l,r.length<4294967296) (hm:m.length<20) (hs:∀r∈m,r.length<4294967296):Pure P 21 [.agg [.t (.sl (l.map rowT))],.agg [.t (.sl (m.map rowT))]] (.b true):=by
 have h1:=psorted_pure l (by omega) hr (Nat.lt_of_le_of_lt (List.length_filter_le _ _) hl)
 have h2:=psorted_pure m (by omega) hs (Nat.lt_of_le_of_lt (List.length_filter_le _ _) hm)
 have h3:=eqrows_pure (sortR l) (by have:=sortR_len l;omega) fun r hr'=>by have:=hr r (sortR_mem.1 hr').1;omega
 rw [←h] at h2
 generalize sortR l=S at *
 refine pure_of Tryz.func21 rfl rfl (by simp [Tryz.f21]) (by simp [bnd,bnd.bndL]) (by simp [bnd,bnd.bndL]) fun B hB hnx=>?_
 simp only [Tryz.f21] at hB ⊢
 refine K_run hB 100 ?_
 simp [go_sem]
 refine K_drawn [] rfl (by rw [hB];kernel_rfl) ?_
 refine K_run hB 100 ?_
 simp [go_sem]
 refine K_dCallP rfl rfl rfl (args:=[.agg [.t (.sl (l.map rowT))]]) (f:=54) (by simp [go_sem]) (h1) ?_
 refine K_run hB 100 ?_
 simp [go_sem]
 refine K_dCallP rfl rfl rfl (args:=[.agg [.t (.sl (m.map rowT))]]) (f:=54) (by simp [go_sem]) (h2) ?_
 refine K_run hB 100 ?_
 simp [go_sem]
 refine K_dCallP rfl rfl rfl (args:=[.t (.sl (S.map rowT)),.t (.sl (S.map rowT)),cmpS]) (f:=53) (by simp [go_sem]) (h3) ?_
 refine K_run hB 100 ?_
 simp [go_sem]
theorem asame_pure (a:Ans):Pure P 13 [a.a,a.a] (.b true):=by
 refine pure_of Tryz.func13 rfl rfl (by simp [Tryz.f13]) (by simp [bnd,bnd.bndL,Ans.a,Ans.cs]) (by simp [bnd,bnd.bndL]) fun B hB hnx=>?_
 simp only [Tryz.f13] at hB ⊢
 refine K_run hB 100 ?_
 simp [go_sem,Ans.a,Ans.cs,unbytes_byt]
theorem lstext_pure (i o:List Nat) (hi:i.length<2^63) (hi8:∀c∈i,c<256) (ho:o.length<2^63) (ho8:∀c∈o,c<256):Pure P 6 [.t (.sl (byt i)),.t (.sl (byt o))] (.b true):=by
 refine pure_of Tryz.func6 rfl rfl (by simp [Tryz.f6]) (by simp [bnd,bnd.bndL]) (by simp [bnd,bnd.bndL]) fun B hB hnx=>?_
 simp only [Tryz.f6] at hB ⊢
 have hf:=few23_pure i o hi hi8 ho ho8
 have h1:=parseB_pure i hi hi8
 have h2:=oparse_pure o ho ho8
 refine K_run hB 100 ?_
 simp [go_sem]
 refine K_call rfl rfl rfl (args:=[]) (f:=11) (by simp [go_sem]) (by simp [go_sem,hB]) ((awake23_pure).spec _ _) ?_
 refine K_run hB 100 ?_
 simp [go_sem]
 refine K_call rfl rfl rfl (args:=[.t (.sl (byt i)),.t (.sl (byt o))]) (f:=12) (by simp [go_sem]) (by simp [go_sem,hB]) ((hf).spec _ _) ?_
 refine K_run hB 100 ?_
 simp [go_sem]
 refine K_call rfl rfl rfl (args:=[.t (.sl (byt i))]) (f:=16) (by simp [go_sem]) (by simp [go_sem,hB]) ((h1).spec _ _) ?_
 refine K_run hB 100 ?_
 simp [go_sem,Inst.a]
 refine K_call rfl rfl rfl (args:=[.t (.sl (byt o))]) (f:=17) (by simp [go_sem]) (by simp [go_sem,hB]) ((h2).spec _ _) ?_
 cases cf:few23 i o with
 |false=>
  refine K_run hB 100 ?_
  simp [go_sem,Opt.a,Opt.cs]
 |true=>
  obtain ⟨c1,c2⟩:=few23_is cf
  have hs:=solve_pure i o hi hi8 ho ho8 c1 c2
  have hr:=srun_pure (parseR i).1 (optsR o).1 c1 c2
  by_cases e:(parseR i).2=0
  rotate_left
  ·refine K_run hB 100 ?_
   simp [go_sem,Opt.a,Opt.cs,e]
  by_cases f:(optsR o).2=0
  rotate_left
  ·refine K_run hB 100 ?_
   simp [go_sem,Opt.a,Opt.cs,e,f]
  have hm:=parseR_may i e
  have htd:=search_told c1 hm (optsR_may o f) c2
  have hsh:=ans_short e f c1 c2
  have hsm:=asame_pure (solveR i o)
  rw [solveR_ans e f] at hs hsh hsm
  generalize hx:(parseR i).1=x at *
  generalize hp:(optsR o).1=p at *
  generalize hR:x.search p=R at *
  have ha1:(x.ans R (noAns 1)).status=R.status:=rfl
  have ha2:(x.ans R (noAns 1)).low=R.low:=rfl
  have ha3:(x.ans R (noAns 1)).up=R.up:=rfl
  have hinf:inf=1152921504606846976:=rfl
  have htx:(x.ans R (noAns 1)).text=if R.up<inf then printB (sortR R.plan) else noPlan:=rfl
  generalize x.ans R (noAns 1)=A at *
  have hA:A.a= .agg [.i R.status,.t (.sl (byt A.text)),.i R.low,.i R.up,.t (.sl (byt A.cert))]:=by rw [Ans.a,Ans.cs,ha1,ha2,ha3]
  rw [hA] at hs hsm
  refine K_run hB 100 ?_
  simp [go_sem,Opt.a,Opt.cs,e,f]
  refine K_call rfl rfl rfl (args:=[.t (.sl (byt i)),.t (.sl (byt o))]) (f:=14) (by simp [go_sem]) (by simp [go_sem,hB]) ((hs).spec _ _) ?_
  refine K_run hB 100 ?_
  simp [go_sem]
  refine K_call rfl rfl rfl (args:=[.t (.sl (byt i)),.t (.sl (byt o))]) (f:=14) (by simp [go_sem]) (by simp [go_sem,hB]) ((hs).spec _ _) ?_
  refine K_run hB 100 ?_
  simp [go_sem]
  refine K_call rfl rfl rfl (args:=[x.a,p.a]) (f:=18) (by simp [go_sem,Inst.a,Opt.a,Opt.cs]) (by simp [go_sem,hB]) ((hr).spec _ _) ?_
  refine K_run hB 100 ?_
  simp [go_sem,SRes.a]
  refine K_call rfl rfl rfl (args:=[.agg [.i R.status,.t (.sl (byt A.text)),.i R.low,.i R.up,.t (.sl (byt A.cert))],.agg [.i R.status,.t (.sl (byt A.text)),.i R.low,.i R.up,.t (.sl (byt A.cert))]]) (f:=13) (by simp [go_sem]) (by simp [go_sem,hB]) ((hsm).spec _ _) ?_
  by_cases c:R.up<inf
  rotate_left
  ·rw [if_neg c] at htx
   have hu:R.up=1152921504606846976:=by have:=htd.le;omega
   rw [htx]
   refine K_run hB 100 ?_
   simp [go_sem,hu]
   refine K_drawn [] rfl (by rw [hB];kernel_rfl) ?_
   refine K_run hB 100 ?_
   simp [go_sem,unbytes_byt]
   refine K_dCallP rfl rfl rfl (args:=[]) (f:=19) (by simp [go_sem]) (noplan_pure) ?_
   refine K_run hB 100 ?_
   simp [go_sem,unbytes_byt,noPlan]
  ·rw [if_pos c] at htx
   obtain ⟨hD,hn⟩:=plan_digits c1 hm (htd.plan c)
   obtain ⟨ht,_⟩:=plan_text c1 hm (htd.plan c)
   have hu:¬R.up=1152921504606846976:=by omega
   have hpp:=pparse_pure A.text (by have:=hsh.text;omega) hsh.text8
   rw [htx,ht] at hpp
   have hrl:∀r∈R.plan,r.length<4294967296:=fun r hr=>by have:=(hD.row r hr).1;omega
   have hsl:=sortR_len R.plan
   have hps:Pure P 21 [.agg [.t (.sl ((sortR R.plan).map rowT))],.agg [.t (.sl (planT R.plan))]] (.b true):=plsame_pure (sortR R.plan) R.plan sortR_idem (by omega) (fun r hr=>hrl r (sortR_mem.1 hr).1) hn hrl
   rw [htx]
   generalize sortR R.plan=S at *
   refine K_run hB 100 ?_
   simp [go_sem,hu]
   refine K_call rfl rfl rfl (args:=[.t (.sl (byt (printB S)))]) (f:=20) (by simp [go_sem]) (by simp [go_sem,hB]) ((hpp).spec _ _) ?_
   refine K_run hB 100 ?_
   simp [go_sem]
   refine K_call rfl rfl rfl (args:=[.agg [.t (.sl (S.map rowT))],.agg [.t (.sl (planT R.plan))]]) (f:=21) (by simp [go_sem]) (by simp [go_sem,hB]) ((hps).spec _ _) ?_
   refine K_run hB 100 ?_
   simp [go_sem]
end Go.Proofs.YtnoifgjiipgpoaaGreatDoor
