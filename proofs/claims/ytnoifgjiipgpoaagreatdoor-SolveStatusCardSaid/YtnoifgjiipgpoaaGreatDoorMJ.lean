/- Parts of the proof: Srch4, Law17e, Law15b, Srch5, Srch6, Law19, Law19b, Law19d, LogP, HoldB, MkP, MkP2, HoldC, MkP3, Law20c, Cpr, Solve, Law20d, Solve2, PlanS, Law23, Law23b, ArgB, Whole, Laid. -/
import Derived.Test.YtnoifgjiipgpoaaGreatDoorMI
import Derived.Test.YtnoifgjiipgpoaaGreatDoorRows
import Derived.KernelRfl
import Derived.LaidLaws
import Derived.Handed
import Derived.SevenTiedAt
set_option linter.all false
set_option maxHeartbeats 4000000
set_option maxRecDepth 4000
set_option maxHeartbeats 4000000
namespace Go.Proofs.YtnoifgjiipgpoaaGreatDoor
open Go Go.Proofs.YtnoifgjiipgpoaaGreatDoor.R
structure LookPre (x:Inst) (w:Int) (n:Node):Prop where
 st:x.stops.length<2^31
 wi:w≤3000
 ok:n.s.ok
 path:n.path.length<2^28
 nar:∀up,0≤(x.narrow n w up).2.2∧(x.narrow n w up).2.2<2^40∧(x.narrow n w up).1.path.length<2^31
 lay:∀up,LFine (x.build n w up).layers∧sizes (x.build n w up).layers<2^40
 most:x.mostN w<2^20
 exa:∀up,0≤(x.exact n up (x.mostN w)).2.2.2∧(x.exact n up (x.mostN w)).2.2.2<2^40∧(x.exact n up (x.mostN w)).1.path.length<2^31
structure SPre (s:SS):Prop where
 steps:0≤s.steps∧s.steps<2^60
 subs:s.subs.length<2^29
 q:s.q.length<2^29
 log:s.log.length<2^29
theorem SOk.turn {x:Inst} {o:Opt} {k:Ids} {s:SS} {σ:Nat→AObj} {nx:Nat} (h:SOk x o k s σ nx) {t:SS} {τ:Nat→AObj} {nx':Nat} (h1:τ k.s= .box (t.cs x o 0 0 k)) (h2:t.subs=s.subs) (h3:t.q=s.q) (h4:t.log=s.log) (ho:Only k.s σ nx τ nx'):SOk x o k t τ nx':=by
 obtain ⟨b1,b2,b3,b4,b5,b6,b7⟩:=h.b
 rw [SS.cs] at b1
 have e1:k.sb≠k.s:=fun e=>by rw [e,b1] at b2;cases b2
 have e2:k.lg≠k.s:=fun e=>by rw [e,b1] at b3;cases b3
 have:=ho.1
 exact h.only ⟨h1,by rw [h2,ho.2 _ (by omega) e1];exact b2,by rw [h4,ho.2 _ (by omega) e2];exact b3,b4,b5,b6,by omega⟩ h3 ho
theorem slook_spec (x:Inst) (o:Opt) (k:Ids) (s:SS) (n:Node) (hp:LookPre x o.width n) (hs:SPre s) {σ:Nat→AObj} {nx:Nat} (hb:SOk x o k s σ nx):
  CallQ P 51 [.ptr k.s 0,n.a] σ nx fun r σ' nx'=>r= .tup []∧∃k',SOk x o k' (x.lookS o.width s n) σ' nx'∧Runs k σ nx k' σ' nx':=by
 generalize hR:x.lookS o.width s n=R
 refine spec_of Tryz.func51 rfl rfl (by simp [Tryz.f51]) fun B hB hnx hσB=>?_
 simp only [Tryz.f51] at hB ⊢
 have hlt:=hb.b.lt
 have b1:=hb.b.box
 rw [SS.cs] at b1
 have hn:=nbest_pure x n o.width s.up hp.st hp.wi hp.ok (by have:=hp.path;omega)
 obtain ⟨p1,p2,p3⟩:=hp.nar s.up
 have hst:=hs.steps
 rw [Inst.lookS,SS.nar] at hR
 rw [naRes] at hn
 generalize (x.narrow n o.width s.up).2.2=v at *
 generalize (x.narrow n o.width s.up).2.1=bi at *
 generalize (x.narrow n o.width s.up).1=bn at *
 have ne1:¬k.s=nx:=by omega
 have ne2:¬k.s=nx+1:=by omega
 have ne3:¬nx=k.s:=by omega
 have ne4:¬nx+1=k.s:=by omega
 have w1:IntKind.i64.wrap (s.steps+v)=s.steps+v:=w64 _ (by omega)
 refine K_run hB 100 ?_
 simp [go_sem,Node.a,Node.cs,b1,ne1]
 refine K_drawnF [20,21] [0,1,2,3,4,5,6,7,8,9,10,11,12,13,14,15,16,17,18,19] rfl (by rw [hB];kernel_rfl) (by kernel_rfl) fun ht hf'=>?_
 refine K_run hB 100 ?_
 simp [go_sem,ht,hf',Inst.a,b1,ne1]
 refine K_dCallP rfl rfl rfl (args:=[x.a,n.a,.i o.width,.i s.up]) (f:=89) (by simp [go_sem,Inst.a,Node.a,Node.cs]) (hn) ?_
 refine K_run hB 100 ?_
 simp [go_sem,ht,hf',Inst.a,b1,ne1,ne2,ne3,ne4,w1,Node.a,Node.cs]
 have hs1:=fun (τ:Nat→AObj) (h1:τ k.s= .box ((s.plus v).cs x o 0 0 k)) (h2:∀i,i<nx→i≠k.s→τ i=σ i)=>hb.turn (t:=s.plus v) (nx':=nx+1+1) h1 rfl rfl rfl ⟨by omega,h2⟩
 refine K_callQ rfl rfl rfl (args:=[.ptr k.s 0,bn.a,.b bi]) (f:=88) (by simp [go_sem,Node.a,Node.cs]) (by simp [go_sem,hB]) (offer_spec x o 0 0 k (s.plus v) bn bi p3 (nx:=nx+1+1) (hs1 _ (by simp [oput,SS.cs,SS.plus]) fun i h1 h2=>by simp [oput,h2,show ¬i=nx by omega,show ¬i=nx+1 by omega]).b) fun r σ2 nx2 hq=>?_
 obtain ⟨rfl,c1,c2⟩:=hq
 have c3:=(hs1 _ (by simp [oput,SS.cs,SS.plus]) fun i h1 h2=>by simp only [oput];rw [if_neg h2,if_neg (show ¬i=nx+1 by omega),if_neg (show ¬i=nx+1 by omega),if_neg (show ¬i=nx by omega)]).only c1 (offer_up (s.plus v) (bn,bi)).2.2.1 c2
 have hle2:=c2.1
 have n2:σ2 nx= .box n.cs:=by rw [c2.2 nx (by omega) ne3];simp [oput,ne3,Node.cs]
 have r2:Runs k σ nx k σ2 nx2:=Only.runs ⟨by omega,fun i h1 h2=>by rw [c2.2 i (by omega) h2];simp [oput,h2,show ¬i=nx by omega,show ¬i=nx+1 by omega]⟩
 have hpre:((s.plus v).offer (bn,bi)).subs=s.subs∧((s.plus v).offer (bn,bi)).q=s.q∧((s.plus v).offer (bn,bi)).log=s.log∧((s.plus v).offer (bn,bi)).steps=s.steps+v:=(offer_up (s.plus v) (bn,bi)).2
 generalize (s.plus v).offer (bn,bi)=t at *
 obtain ⟨y1,y2,y3,y4⟩:=hpre
 have:=hs.subs
 have:=hs.q
 have:=hs.log
 obtain ⟨l1,l2⟩:=hp.lay t.up
 have hdok:=build_ok x n o.width t.up
 have hds:=hdok.pos
 have hds2:=hdok.le
 rw [Node.cs] at n2
 refine K_run hB 100 ?_
 simp [go_sem,n2]
 refine K_callQ rfl rfl rfl (args:=[.ptr k.s 0,n.a]) (f:=90) (by simp [go_sem,Node.a,Node.cs]) (by simp [go_sem,hB]) (diagram_spec x o k t n hp.st hp.wi hp.ok (by have:=hp.path;omega) (by rw [y3];omega) l1.len (by omega) (σ:=σ2) (nx:=nx2) c3) fun r σ3 nx3 hq=>?_
 obtain ⟨rfl,k3,d1,d2⟩:=hq
 have hle3:=d2.le
 have n3:σ3 nx=σ2 nx:=d2.keep nx (by omega) (by omega) (by omega) (by omega) (by omega) (by omega)
 rw [n2] at n3
 rw [Inst.lookD] at hR
 generalize hD:x.build n o.width t.up=D at *
 have r3:=r2.trans d2
 have z1:=r3.s
 have z2:=d2.q
 have z3:=d2.sb
 have z4:=d2.lg
 have z5:=d2.h
 have hlt3:=d1.b.lt
 have b3:=d1.b.box
 rw [SS.cs,z1] at b3
 have hup:(t.dia n D).up=t.up:=rfl
 have hts:(t.dia n D).steps=t.steps+sizes D.layers:=rfl
 have htu:(t.dia n D).subs=t.subs∧(t.dia n D).q=t.q:=⟨rfl,rfl⟩
 rw [hup,hts] at b3
 have m1:¬k.s=nx3:=by omega
 have m2:¬nx=nx3:=by omega
 have m3:¬nx3=k.s:=by omega
 refine K_run hB 100 ?_
 simp [go_sem,Diag.a,Diag.cs]
 refine K_drawn [] rfl (by rw [hB];kernel_rfl) ?_
 by_cases ca:t.up≤D.low
 ·rw [if_pos ca] at hR
  subst hR
  refine K_run hB 100 ?_
  simp [go_sem,b3,m1,ca]
  have hfin:=d1.stay (σ':=oput (oput σ3 nx3 (.box [.fsl [],.i 0,.b false,.i 0])) nx3 (.box D.cs)) (nx':=nx3+1) (by omega) fun i hi=>by simp [oput,show ¬i=nx3 by omega]
  rw [Diag.cs] at hfin
  exact ⟨by omega,k3,hfin.1,r3.trans hfin.2⟩
 rw [if_neg ca] at hR
 by_cases cb:D.exact=true
 ·rw [if_pos cb] at hR
  have he:=best_pure x n t.up (x.mostN o.width) hp.st (by have:=hp.most;omega) hp.ok (by have:=hp.path;omega)
  obtain ⟨u1,u2,u3⟩:=hp.exa t.up
  have hmx:max o.width (x.stops.length:Int)=(x.mostN o.width:Int):=by unfold Inst.mostN;omega
  rw [SS.exa,hup] at hR
  rw [exRes4] at he
  generalize (x.exact n t.up (x.mostN o.width)).2.2.2=ve at *
  generalize (x.exact n t.up (x.mostN o.width)).2.2.1=vw at *
  generalize (x.exact n t.up (x.mostN o.width)).2.1=ei at *
  generalize (x.exact n t.up (x.mostN o.width)).1=en at *
  have g1:¬k.s=nx3+1:=by omega
  have g2:¬nx=nx3+1:=by omega
  have g3:¬nx3+1=k.s:=by omega
  have g4:¬nx=k.s:=by omega
  have w2:IntKind.i64.wrap (t.steps+(sizes D.layers:Int)+ve)=t.steps+(sizes D.layers:Int)+ve:=w64 _ (by omega)
  refine K_run hB 100 ?_
  simp [go_sem,b3,m1,ca,cb]
  refine K_drawnF [28,29] [0,1,2,3,4,5,6,7,8,9,10,11,12,13,14,15,16,17,18,19,20,21,22,23,24,25,26,27] rfl (by rw [hB];kernel_rfl) (by kernel_rfl) fun ht hf'=>?_
  refine K_run hB 100 ?_
  simp [go_sem,ht,hf',Inst.a,b3,n3,m1,m2,hmx]
  refine K_dCallP rfl rfl rfl (args:=[x.a,n.a,.i t.up,.i (x.mostN o.width)]) (f:=91) (by simp [go_sem,Inst.a,Node.a,Node.cs]) (he) ?_
  refine K_run hB 100 ?_
  simp [go_sem,ht,hf',Inst.a,b3,n3,m1,m2,m3,g1,g2,g3,g4,hmx,w2,Node.a,Node.cs]
  have hs4:=fun (τ:Nat→AObj) (h1:τ k.s= .box (((t.dia n D).plus ve).cs x o 0 0 k3)) (h2:∀i,i<nx3→i≠k.s→τ i=σ3 i)=>d1.turn (t:=(t.dia n D).plus ve) (τ:=τ) (nx':=nx3+1+1) (by rw [z1];exact h1) rfl rfl rfl ⟨by omega,by rw [z1];exact h2⟩
  refine K_callQ rfl rfl rfl (args:=[.ptr k.s 0,en.a,.b ei]) (f:=88) (by simp [go_sem,Node.a,Node.cs]) (by simp [go_sem,hB]) (z1 ▸ offer_spec x o 0 0 k3 ((t.dia n D).plus ve) en ei u3 (nx:=nx3+1+1) (hs4 _ (by simp [oput,SS.cs,SS.plus,hup,hts]) fun i h1 h2=>by simp [oput,h2,show ¬i=nx3 by omega,show ¬i=nx3+1 by omega]).b) fun r σ4 nx4 hq=>?_
  obtain ⟨rfl,e1,e2⟩:=hq
  have e3:=fun (τ:Nat→AObj) (hτ:Only k.s τ (nx3+1+1) σ4 nx4) h1 h2=>(hs4 τ h1 h2).only e1 (offer_up ((t.dia n D).plus ve) (en,ei)).2.2.1 (by rw [z1];exact hτ)
  have e4:=e3 _ e2 (by simp [oput,SS.cs,SS.plus,hup,hts]) fun i h1 h2=>by simp only [oput];rw [if_neg h2,if_neg (show ¬i=nx3+1 by omega),if_neg (show ¬i=nx3+1 by omega),if_neg (show ¬i=nx3 by omega),if_neg (show ¬i=nx3 by omega)]
  have e5:=e2.1
  have e6:Only k3.s σ3 nx3 σ4 nx4:=⟨by omega,fun i h1 h2=>by rw [z1] at h2;rw [e2.2 i (by omega) h2];simp [oput,h2,show ¬i=nx3 by omega,show ¬i=nx3+1 by omega]⟩
  rw [hR] at e4
  refine K_run hB 100 ?_
  simp [go_sem]
  exact ⟨by omega,k3,e4,r3.trans e6.runs⟩
 ·rw [if_neg cb] at hR
  have hcb:D.exact=false:=by simpa using cb
  refine K_run hB 100 ?_
  simp [go_sem,b3,m1,ca,hcb]
  have hfin:=d1.stay (σ':=oput (oput σ3 nx3 (.box [.fsl [],.i 0,.b false,.i 0])) nx3 (.box D.cs)) (nx':=nx3+1) (by omega) fun i hi=>by simp [oput,show ¬i=nx3 by omega]
  rw [Diag.cs,hcb] at hfin
  refine K_callQ rfl rfl rfl (args:=[.ptr k.s 0,D.a]) (f:=92) (by simp [go_sem,Diag.a,Diag.cs,hcb]) (by simp [go_sem,hB]) (z1 ▸ branch_spec x o k3 (t.dia n D) D hp.st l1 (by omega) (by omega) (by rw [htu.1,y1];omega) (by rw [htu.2,y2];omega) hfin.1) fun r σ4 nx4 hq=>?_
  obtain ⟨rfl,k4,e1,e2⟩:=hq
  have e3:=(r3.trans hfin.2).trans e2
  rw [hR] at e1
  refine K_run hB 100 ?_
  simp [go_sem]
  exact ⟨e3.le,k4,e1,e3⟩
end Go.Proofs.YtnoifgjiipgpoaaGreatDoor

set_option maxRecDepth 4000
set_option maxHeartbeats 1000000
namespace Go.Proofs.YtnoifgjiipgpoaaGreatDoor
open Go Go.Proofs.YtnoifgjiipgpoaaGreatDoor.R
theorem buildGo_fine {x:Inst} (w up dp:Int):∀(f:Nat) (ls:List (List Node)) (low:Int) (sq:Option Nat) (l:List Node) (K:Nat),WFine l K→
  ∀k∈(x.buildGo w up dp f ls low sq l).layers,k∈ls∨(WFine k (K+f)∧(k=l∨k.length≤x.mostN w))
 |0,ls,low,sq,l,K,_,k,hk=>.inl hk
 |f+1,ls,low,sq,l,K,h,k,hk=>by
  have push:k∈ls++[l]→k∈ls∨(WFine k (K+(f+1))∧(k=l∨k.length≤x.mostN w)):=fun hk=>by
   rcases List.mem_append.1 hk with hk | hk
   ·exact .inl hk
   ·rw [List.mem_singleton.1 hk]
    exact .inr ⟨⟨h.ok,fun n hn=>by have:=h.path n hn;omega⟩,.inl rfl⟩
  rw [Inst.buildGo] at hk
  split at hk
  ·exact .inl hk
  split at hk
  ·exact push hk
  split at hk
  ·rcases buildGo_fine w up dp f _ _ _ _ (K+1) (h.next up |>.squeeze w) k hk with h1 | ⟨h1,h2⟩
   ·exact push h1
   ·refine .inr ⟨⟨h1.ok,fun n hn=>by have:=h1.path n hn;omega⟩,.inr ?_⟩
    rcases h2 with rfl | h2
    ·exact squeeze_len x _ w
    ·exact h2
  ·rename_i hno
   rcases buildGo_fine w up dp f _ _ _ _ (K+1) (h.next up) k hk with h1 | ⟨h1,h2⟩
   ·exact push h1
   ·refine .inr ⟨⟨h1.ok,fun n hn=>by have:=h1.path n hn;omega⟩,.inr ?_⟩
    rcases h2 with rfl | h2
    ·omega
    ·exact h2
theorem build_fine {x:Inst} {n:Node} (ho:n.s.ok) (w up:Int):∀k∈(x.build n w up).layers,WFine k (n.path.length+41)∧(k=[n]∨k.length≤x.mostN w):=by
 intro k hk
 have hd:=deep_le x
 rcases buildGo_fine w up _ _ _ _ _ _ n.path.length ⟨fun m hm=>by rw [List.mem_singleton.1 hm];exact ho,fun m hm=>by rw [List.mem_singleton.1 hm];exact Nat.le_refl _⟩ k hk with h1 | ⟨h1,h2⟩
 ·cases h1
 ·exact ⟨⟨h1.ok,fun m hm=>by have:=h1.path m hm;omega⟩,h2⟩
end Go.Proofs.YtnoifgjiipgpoaaGreatDoor

set_option maxRecDepth 4000
namespace Go.Proofs.YtnoifgjiipgpoaaGreatDoor
open Go Go.Proofs.YtnoifgjiipgpoaaGreatDoor.R
theorem exGo_path (x:Inst) (most:Int) (k:Nat):∀(d:Nat) (st:Node×Bool×Int) (l:List Node) (n:Int) {K:Nat},Level x l d K→K≤k→st.1.path.length≤k→(x.exGo most d st l n).1.path.length≤k
 |0,st,l,n,K,_,_,h=>h
 |d+1,st,l,n,K,h1,h2,h3=>by
  rw [Inst.exGo]
  split
  ·exact h3
  ·split
   ·exact h3
   ·refine exGo_path x most k d _ _ _ (h1.next st.2.2) h2 ?_
    unfold Inst.look
    split
    ·exact bests_path fun m hm=>by have:=h1.path m hm;omega
    ·exact h3
end Go.Proofs.YtnoifgjiipgpoaaGreatDoor

set_option maxRecDepth 4000
set_option maxHeartbeats 4000000
namespace Go.Proofs.YtnoifgjiipgpoaaGreatDoor
open Go Go.Proofs.YtnoifgjiipgpoaaGreatDoor.R
theorem look_pre {x:Inst} {p:Nat} (hx:x.Fit p) (hm:x.may=true) (hp:p≤3) {n:Node} (ht:Track x n) {w:Int} (hw:w≤40):LookPre x w n:=by
 have hlen:=hx.len
 have hfew:=ht.few
 have hml:=meas_le x n.s
 have hmost:x.mostN w≤40:=by unfold Inst.mostN;omega
 have hlay:=fun up=>build_fine (x:=x) ht.is.ok w up
 have hdp:=(deep_meas hm).2
 have hcnt:∀up,(x.build n w up).layers.length≤41:=fun up=>by
  have:=build_count x n w up
  omega
 refine ⟨by omega,by omega,ht.is.ok,by omega,fun up=>?_,fun up=>⟨⟨by have:=hcnt up;omega,fun l hl=>?_,fun l hl m hm=>?_⟩,?_⟩,by omega,fun up=>?_⟩
 ·obtain ⟨n1,n2⟩:=narrow_steps x n w up (by omega)
  have hmu:widthN w*x.meas n.s≤3000*40:=Nat.mul_le_mul (by unfold widthN;split<;>omega) hml
  have:=narrow_path x n w up ht.is.ok
  omega
 ·rcases (hlay up l hl).2 with rfl | h
  ·simp
  ·omega
 ·have h:=(hlay up l hl).1
  exact ⟨h.ok m hm,by have:=h.path m hm;omega⟩
 ·have h:=sizes_le 41 (x.build n w up).layers fun l hl=>by
   rcases (hlay up l hl).2 with rfl | h
   ·simp
   ·omega
  have:41*(x.build n w up).layers.length≤41*41:=Nat.mul_le_mul_left _ (hcnt up)
  omega
 ·have h1:0≤(x.exact n up (x.mostN w)).2.2.2∧(x.exact n up (x.mostN w)).2.2.2≤0+3000*((x.meas n.s+1:Nat):Int):=exGo_cnt x _ (by omega) (by omega) _ _ _ _ (Int.le_refl _) (by omega)
  have h2:(x.exact n up (x.mostN w)).1.path.length≤n.path.length+41:=exGo_path x _ (n.path.length+41) _ _ _ _ (Level.root x n ht.is.ok) (by omega) (Nat.zero_le _)
  omega
theorem len_sum {α:Type} (f:α→Nat):∀(l:List α),(∀e∈l,1≤f e)→l.length≤(l.map f).sum
 |[],_=>Nat.zero_le _
 |e :: l,h=>by
  have h1:=len_sum f l fun a ha=>h a (List.mem_cons_of_mem _ ha)
  have h2:=h e List.mem_cons_self
  rw [List.length_cons,List.map_cons,List.sum_cons]
  omega
theorem Going.pre {x:Inst} {p:Nat} (hx:x.Fit p) (hm:x.may=true) (hp:p≤3) {s:SS} (h:Going x p s):SPre s:=by
 have h1:=h.small.subs
 have h2:=h.small.log
 have h3:=h.small.steps
 have h4:s.q.length≤s.mass p:=len_sum _ _ fun e he=>by
  obtain ⟨n,hn⟩:=h.inv.nos e he
  rw [getD_of hn]
  exact wt_pos hx hm hp (h.inv.track n (List.mem_of_getElem? hn))
 exact ⟨by omega,by omega,by omega,by omega⟩
def SRes.a (r:SRes):AV:=.agg [.i r.status,.t (.sl (planT r.plan)),.i r.up,.i r.low,.i r.steps,.t (.sl (logT r.log))]
def Inst.search (x:Inst) (o:Opt):SRes:=
 if x.may=true then if o.mayB=true then (x.runGo o 1850 x.start).getD ⟨0,[],inf,0,0,[]⟩ else ⟨1,[],inf,0,0,[]⟩ else ⟨0,[],inf,0,0,[]⟩
theorem search_is {x:Inst} {p:Nat} (hx:x.Fit p) (hm:x.may=true) (hp:p≤3) {o:Opt} (ho:o.mayB=true) (hw:o.width≤40):x.runGo o 1850 x.start=some (x.search o):=by
 have hg:=start_going hx hm hp
 have:=hg.small.subs
 obtain ⟨r,hr⟩:=run_ends hx hm hp o hw 1850 x.start hg (by omega)
 rw [Inst.search,if_pos hm,if_pos ho,hr]
 rfl
theorem new_spec (o:Int) {σ:Nat→AObj} {nx:Nat}:CallSpec P 45 [.i o] σ nx (.ptr nx 0) (oput σ nx (.box [.fsl [],.i o])) (nx+1):=by
 refine CallQ.spec (spec_of Tryz.func45 rfl rfl (by simp [Tryz.f45]) fun B hB hnx hσB=>?_)
 simp only [Tryz.f45] at hB ⊢
 refine K_run hB 100 ?_
 simp [go_sem]
theorem ends_spec (x:Inst) (o:Opt) (k:Ids) (s:SS) {σ:Nat→AObj} {nx:Nat} (hb:SOk x o k s σ nx):
  CallQ P 49 [.ptr k.s 0] σ nx fun r σ' nx'=>r= .agg [.i s.ends.status,.t (.sl (planT s.plan)),.i s.up,.i s.up,.i s.steps,.ref k.lg]∧nx≤nx'∧∀i,i<nx→i≠k.s→σ' i=σ i:=by
 refine spec_of Tryz.func49 rfl rfl (by simp [Tryz.f49]) fun B hB hnx hσB=>?_
 simp only [Tryz.f49] at hB ⊢
 have b1:=hb.b.box
 rw [SS.cs] at b1
 have hlt:=hb.b.lt
 have ne1:¬k.s=nx:=by omega
 have ne2:¬nx=k.s:=by omega
 by_cases c:s.up<inf
 ·have e:s.ends.status=2:=if_pos c
  have c':¬(1152921504606846976≤s.up):=by
   have:inf=1152921504606846976:=rfl
   omega
  refine K_run hB 100 ?_
  simp [go_sem,b1,ne1,ne2,c',e]
  exact fun i h1 h2=>by simp [oput,h2,show ¬i=nx by omega]
 ·have e:s.ends.status=3:=if_neg c
  have c':1152921504606846976≤s.up:=by
   have:inf=1152921504606846976:=rfl
   omega
  refine K_run hB 100 ?_
  simp [go_sem,b1,ne1,ne2,c',e]
  exact fun i h1 h2=>by simp [oput,h2,show ¬i=nx by omega]
end Go.Proofs.YtnoifgjiipgpoaaGreatDoor

set_option maxRecDepth 4000
set_option maxHeartbeats 4000000
namespace Go.Proofs.YtnoifgjiipgpoaaGreatDoor
open Go Go.Proofs.YtnoifgjiipgpoaaGreatDoor.R
structure RI (x:Inst) (o:Opt) (p:Nat) (R:SRes) (f:Nat) (s:SS) (k:Ids) (τ:Nat→AObj) (m:Nat):Prop where
 run:x.runGo o f s=some R
 go:Going x p s
 ok:SOk x o k s τ m
 ids:k.s=4∧3≤k.h∧3≤k.q∧3≤k.sb∧3≤k.lg
 b0:τ 0= .box [.i x.pairs,.i x.cars,.i x.room,.t (.sl (x.stops.map Stop.t))]
 b1:τ 1= .box [.i o.width,.i o.order,.i o.budget]
 b2:τ 2= .box [.i 0,.fsl [],.i 0,.i 0,.i 0,.fsl []]
theorem RI.next {x:Inst} {o:Opt} {p:Nat} {R:SRes} {f g:Nat} {s t:SS} {k k':Ids} {τ τ':Nat→AObj} {m m':Nat} (h:RI x o p R f s k τ m) (h1:x.runGo o g t=some R) (h2:Going x p t) (h3:SOk x o k' t τ' m') (h4:Runs k τ m k' τ' m'):RI x o p R g t k' τ' m':=by
 have:=h.ids
 have:=h.ok.b.lt
 have h5:=h4.s
 have h6:=h4.h
 have:=h4.q
 have:=h4.sb
 have:=h4.lg
 refine ⟨h1,h2,h3,by omega,?_,?_,?_⟩
 ·rw [h4.keep 0 (by omega) (by omega) (by omega) (by omega) (by omega) (by omega)];exact h.b0
 ·rw [h4.keep 1 (by omega) (by omega) (by omega) (by omega) (by omega) (by omega)];exact h.b1
 ·rw [h4.keep 2 (by omega) (by omega) (by omega) (by omega) (by omega) (by omega)];exact h.b2
theorem srun_pure (x:Inst) (o:Opt) (hl:x.stops.length≤7) (hw:o.width≤40):Pure P 18 [x.a,o.a] ((x.search o).a):=by
 generalize hR:x.search o=R
 refine pure_of Tryz.func18 rfl rfl (by simp [Tryz.f18]) (by simp [bnd,bnd.bndL,Inst.a,Opt.a,Opt.cs]) (by simp [bnd,bnd.bndL,SRes.a]) fun B hB hnx=>?_
 simp only [Tryz.f18] at hB ⊢
 have hmy:=may_pure x (by omega)
 have hom:=omay_pure o
 refine K_run hB 100 ?_
 simp [go_sem,Inst.a,Opt.a,Opt.cs]
 refine K_scopeN (α:=Unit) 0 (fun _=>False) (fun _=>⟨sl [],noObj,0⟩) (fun _=>0) rfl (fun _ h=>h.elim) ?_
 intro J hJ
 refine K_run hB 100 ?_
 simp [go_sem]
 refine K_call rfl rfl rfl (args:=[x.a]) (f:=44) (by simp [go_sem,Inst.a]) (by simp [go_sem,hB]) ((hmy).spec _ _) ?_
 cases cm:x.may with
 |false=>
  rw [Inst.search,if_neg (by simp [cm])] at hR
  subst hR
  refine K_run hB 100 ?_
  simp [go_sem]
  rfl
 |true=>
  refine K_run hB 100 ?_
  simp [go_sem]
  refine K_call rfl rfl rfl (args:=[o.a]) (f:=25) (by simp [go_sem,Opt.a,Opt.cs]) (by simp [go_sem,hB]) ((hom).spec _ _) ?_
  cases co:o.mayB with
  |false=>
   rw [Inst.search,if_pos cm,if_neg (by simp [co])] at hR
   subst hR
   refine K_run hB 100 ?_
   simp [go_sem]
   rfl
  |true=>
   refine K_run hB 100 ?_
   simp [go_sem]
   refine K_drawnF [5,7] [0,1,2] rfl (by rw [hB];kernel_rfl) (by kernel_rfl) fun ht hf'=>?_
   refine K_run hB 100 ?_
   simp [go_sem,ht,hf']
   refine K_dCall rfl rfl rfl (args:=[.i o.order]) (f:=45) (by simp [go_sem]) (new_spec o.order) (by decide) (okPends_does (by simp [go_sem])) ?_
   refine K_run hB 100 ?_
   simp [go_sem,ht,hf']
   obtain ⟨τ0,hτ0⟩:∃τ0:Nat→AObj,τ0=ob [(0,.box [.i x.pairs,.i x.cars,.i x.room,.t (.sl (x.stops.map Stop.t))]),(1,.box [.i o.width,.i o.order,.i o.budget]),(2,.box [.i 0,.fsl [],.i 0,.i 0,.i 0,.fsl []]),(3,.box [.ref 5,.i o.order]),(4,.box (SS.cs x o 0 0 ⟨4,3,5,7,6⟩ ⟨[],[],inf,[],0,[]⟩)),(5,.arr 4 []),(6,.arr 14 []),(7,.arr 10 [])]:=⟨_,rfl⟩
   refine K_imp (t:=⟨sl [(2,.ptr 0 0),(3,.ptr 1 0),(4,.ptr 2 0),(5,.ptr 4 0),(26,.ptr 4 0),(27,.agg [.i x.pairs,.i x.cars,.i x.room,.t (.sl (x.stops.map Stop.t))])],τ0,8⟩)
    ((Imp.ownB (b:=3) (off:=0) (sz:=4) (cs:=[.fsl [],.i o.order]) (by simp [oput]) rfl).trans
    ((Imp.ownB (b:=4) (off:=12) (sz:=14) (cs:=[.i x.pairs,.i x.cars,.i x.room,.t (.sl (x.stops.map Stop.t)),.i o.width,.i o.order,.i o.budget,.i 0,.fsl [],.i inf,.i 0,.i 0,.fsl [],.fsl [],.ptr 3 0]) (by simp [oput];rfl) rfl).trans
    ((Imp.ownB (b:=4) (off:=13) (sz:=10) (cs:=[.i x.pairs,.i x.cars,.i x.room,.t (.sl (x.stops.map Stop.t)),.i o.width,.i o.order,.i o.budget,.i 0,.fsl [],.i inf,.i 0,.i 0,.ref 6,.fsl [],.ptr 3 0]) (by simp [oput]) rfl).trans
    ((Imp.looseB (b:=4) (cs:=[.i x.pairs,.i x.cars,.i x.room,.t (.sl (x.stops.map Stop.t)),.i o.width,.i o.order,.i o.budget,.i 0,.fsl [],.i inf,.i 0,.i 0,.ref 6,.ref 7,.ptr 3 0]) (by simp [oput])).trans
    (Imp.slots (by simp [go_sem]) ?_ rfl))))) ?_
   ·funext i
    rw [hτ0]
    match i with
    |0=>simp [oput,ob]
    |1=>simp [oput,ob]
    |2=>simp [oput,ob]
    |3=>simp [oput,ob]
    |4=>simp [oput,ob,loosen,SS.cs,planT]
    |5=>simp [oput,ob]
    |6=>simp [oput,ob]
    |7=>simp [oput,ob]
    |i+8=>simp [oput,ob,noObj]
   obtain ⟨p,hx⟩:=x.fit cm
   have hp3:p≤3:=by have:=hx.len;omega
   have hrun:=search_is hx cm hp3 co hw
   rw [hR] at hrun
   have hgo:=start_going hx cm hp3
   have hroot:=root_pureS x (by omega)
   have hrok:=rootS_ok x
   have hsok:SOk x o ⟨4,3,5,7,6⟩ ⟨[],[],inf,[],0,[]⟩ τ0 8:=by
    rw [hτ0]
    exact ⟨⟨rfl,rfl,rfl,by decide,by decide,by decide,by decide⟩,[],rfl,rfl,List.Perm.refl _,fun i h1 h2=>by simp at h2⟩
   have y0:τ0 0= .box [.i x.pairs,.i x.cars,.i x.room,.t (.sl (x.stops.map Stop.t))]:=by rw [hτ0];rfl
   have y1:τ0 1= .box [.i o.width,.i o.order,.i o.budget]:=by rw [hτ0];rfl
   have y2:τ0 2= .box [.i 0,.fsl [],.i 0,.i 0,.i 0,.fsl []]:=by rw [hτ0];rfl
   clear hτ0
   refine K_call rfl rfl rfl (args:=[x.a]) (f:=47) (by simp [go_sem,Inst.a]) (by simp [go_sem,hB]) ((hroot).spec _ _) ?_
   refine K_run hB 100 ?_
   simp [go_sem,State.a,State.cs]
   refine K_imp Imp.loose ?_
   refine K_callQ rfl rfl rfl (args:=[.ptr 4 0,x.rootN.a,.i 0]) (f:=46) (by simp [go_sem,Node.a,Node.cs,Inst.rootN,loosen,loosen.loosenL,ints]) (by simp [go_sem,hB]) (push_spec x o ⟨4,3,5,7,6⟩ ⟨[],[],inf,[],0,[]⟩ x.rootN 0 (by omega) hrok (by simp [Inst.rootN]) (by simp) (by simp) (σ:=τ0) (nx:=8) hsok) fun r σ1 nx1 hq=>?_
   obtain ⟨rfl,k1,c1,c2⟩:=hq
   rw [←Inst.start] at c1
   have z:=c2.q
   have z2:=c2.sb
   have z3:=c2.lg
   have z4:=c2.s
   have z5:=c2.h
   simp only at z z2 z3 z4 z5
   have hri:RI x o p R 1850 x.start k1 σ1 nx1:=by
    refine ⟨hrun,hgo,c1,by omega,?_,?_,?_⟩
    ·rw [c2.keep 0 (by decide) (by decide) (by decide) (by decide) (by decide) (by decide)];exact y0
    ·rw [c2.keep 1 (by decide) (by decide) (by decide) (by decide) (by decide) (by decide)];exact y1
    ·rw [c2.keep 2 (by decide) (by decide) (by decide) (by decide) (by decide) (by decide)];exact y2
   clear z z2 z3 z4 z5 c1 c2 y0 y1 y2 hsok hrun hgo hroot hrok hR hmy hom
   refine K_run hB 100 ?_
   simp [go_sem]
   refine K_loopP (α:=Nat×SS×Ids×(Nat→AObj)×Nat) (fun (f,s,k,τ,m)=>RI x o p R f s k τ m) (fun (f,s,k,τ,m)=>⟨sl [(2,.ptr 0 0),(3,.ptr 1 0),(4,.ptr 2 0),(5,.ptr 4 0)],τ,m⟩) (fun a=>a.1) (1850,x.start,k1,σ1,nx1) hri (Imp.slots (by simp [go_sem,loosen]) rfl rfl) ?_
   rintro ⟨f,s,k,τ,m⟩ h
   simp only at h
   obtain ⟨f,rfl⟩:∃f',f=f'+1:=by
    cases f with
    |zero=>have:=h.run;cases this
    |succ f=>exact ⟨f,rfl⟩
   have hrun:=h.run
   rw [Inst.runGo] at hrun
   obtain ⟨hi1,hi2,hi3,hi4,hi5⟩:=h.ids
   have hlt:=h.ok.b.lt
   have a1:=h.ok.b.box
   rw [SS.cs,hi1] at a1
   obtain ⟨l,q1,q2,q3,q4⟩:=h.ok.q
   have hll:=q3.length_eq
   have hpre:=h.go.pre hx cm hp3
   have:=hpre.q
   by_cases cq:l=[]
   ·subst cq
    have hq0:s.q=[]:=List.eq_nil_of_length_eq_zero (by rw [←hll];rfl)
    have hend:R=s.ends:=by
     rw [hq0] at hrun
     exact (Option.some.inj hrun).symm
    refine K_run hB 100 ?_
    simp [go_sem,a1]
    refine K_call rfl rfl rfl (args:=[.ptr k.h 0]) (f:=48) (by simp [go_sem]) (by simp [go_sem,hB]) (htake_nil o.order hlt.2.1 q1 hlt.2.2.1 q2) ?_
    refine K_run hB 100 ?_
    simp [go_sem,Ent.a,Ent.cs]
    have hst:=h.ok.stay (σ':=oput (oput τ m (.box [.i 0,.i 0,.i 0])) m (.box [.i Ent.zero.bound,.i Ent.zero.depth,.i Ent.zero.no])) (nx':=m+1) (by omega) fun i hi=>by simp [oput,show ¬i=m by omega]
    refine K_callQ rfl rfl rfl (args:=[.ptr k.s 0]) (f:=49) (by simp [go_sem,hi1]) (by simp [go_sem,hB]) (ends_spec x o k s (nx:=m+1) hst.1) fun r σ2 nx2 hq=>?_
    obtain ⟨rfl,e1,e2⟩:=hq
    have e3:σ2 2= .box [.i 0,.fsl [],.i 0,.i 0,.i 0,.fsl []]:=by rw [e2 2 (by omega) (by omega)];simp [oput,show ¬2=m by omega,h.b2]
    have e4:σ2 k.lg= .arr 14 (logT s.log):=by rw [e2 k.lg (by omega) (fun e=>by have h1:=h.ok.b.log;rw [e,h.ok.b.box] at h1;cases h1)];simp [oput,show ¬k.lg=m by omega,h.ok.b.log]
    have e5:¬k.lg=2:=by omega
    refine K_run hB 100 ?_
    simp [go_sem,e3,e4,e5]
    rw [hend]
    rfl
   ·have hpos:0<l.length:=List.length_pos_iff.2 cq
    obtain ⟨q',t1,t2⟩:=take_heap q3 q4 hpos
    have hok:=restH_ok q4 hpos
    have htk:=htake_spec o.order l (by omega) hpos hlt.2.1 q1 hlt.2.2.1 q2
    rw [t1] at hrun
    simp only at hrun
    obtain ⟨n,hn,hg,htn,k1,k2,k3⟩:=h.go.look hx cm hp3 hw t1
    have hskip:=fun c=>h.go.skip t1 c
    generalize l.getD 0 Ent.zero=e at *
    generalize restH o.order l=l' at *
    refine K_run hB 100 ?_
    simp [go_sem,a1]
    refine K_callQ rfl rfl rfl (args:=[.ptr k.h 0]) (f:=48) (by simp [go_sem]) (by simp [go_sem,hB]) htk fun r σ2 nx2 hq=>?_
    obtain ⟨rfl,g1,qn,g2,g3,g4,g5,g6⟩:=hq
    have hsb:=h.ok.b
    have d1:k.sb≠k.h∧k.sb≠k.q∧k.lg≠k.h∧k.lg≠k.q:=⟨fun e=>hsb.hs.1 e.symm,fun e=>hsb.qs.2.2.1 e.symm,fun e=>hsb.hs.2 e.symm,fun e=>hsb.qs.2.2.2 e.symm⟩
    have dsh:=hsb.sh
    have dqs:=hsb.qs
    have dhs:=hsb.hs
    have hsok2:SOk x o {k with q:=qn} (s.left q') σ2 nx2:=by
     refine ⟨⟨?_,?_,?_,dsh,?_,dhs,?_⟩,l',g4,g5,t2,hok⟩
     ·rw [g6 k.s (by omega) dsh (by omega)];exact hsb.box
     ·rw [g6 k.sb (by omega) d1.1 d1.2.1];exact hsb.subs
     ·rw [g6 k.lg (by omega) d1.2.2.1 d1.2.2.2];exact hsb.log
     ·simp only;omega
     ·simp only;omega
    have hruns2:Runs k τ m {k with q:=qn} σ2 nx2:=⟨g1,rfl,rfl,.inr g2,.inl rfl,.inl rfl,fun i h1 h2 h3 h4 h5 h6=>g6 i h1 h3 h4⟩
    clear htk
    have b3:=(hruns2.keep 1 (by omega) (by omega) (by omega) (by omega) (by omega) (by omega)).trans h.b1
    have b4:=(hruns2.keep 2 (by omega) (by omega) (by omega) (by omega) (by omega) (by omega)).trans h.b2
    have b5:=hsok2.b.box
    rw [SS.cs] at b5
    simp only [hi1,SS.left] at b5
    have hm4:4<nx2:=by omega
    have j1:¬4=nx2:=by omega
    have j2:¬nx2=4:=by omega
    have j3:¬1=nx2:=by omega
    have j4:¬2=nx2:=by omega
    have j5:¬nx2=2:=by omega
    refine K_run hB 100 ?_
    simp [go_sem,Ent.a,Ent.cs]
    refine K_drawn [] rfl (by rw [hB];kernel_rfl) ?_
    have hst2:=hsok2.stay (σ':=oput (oput σ2 nx2 (.box [.i 0,.i 0,.i 0])) nx2 (.box [.i e.bound,.i e.depth,.i e.no])) (nx':=nx2+1) (by omega) fun i hi=>by simp [oput,show ¬i=nx2 by omega]
    have hold:∀i,i<nx2→oput (oput σ2 nx2 (.box [.i 0,.i 0,.i 0])) nx2 (.box [.i e.bound,.i e.depth,.i e.no]) i=σ2 i:=fun i hi=>by simp [oput,show ¬i=nx2 by omega]
    have hnew:oput (oput σ2 nx2 (.box [.i 0,.i 0,.i 0])) nx2 (.box [.i e.bound,.i e.depth,.i e.no]) nx2= .box [.i e.bound,.i e.depth,.i e.no]:=by simp [oput]
    by_cases c1:s.up≤e.bound
    ·rw [if_pos c1] at hrun
     refine K_run hB 100 ?_
     simp [go_sem,b5,j1,c1]
     exact Next.mk (f,s.left q',{k with q:=qn},_,nx2+1) (h.next hrun (hskip c1) hst2.1 (hruns2.trans hst2.2)) (Imp.slots (by simp [go_sem]) rfl rfl) (by simp only;omega)
    rw [if_neg c1] at hrun
    refine K_run hB 100 ?_
    simp [go_sem,b5,j1,c1]
    refine K_drawn [] rfl (by rw [hB];kernel_rfl) ?_
    by_cases c2:o.budget≤s.steps
    ·rw [if_pos c2] at hrun
     refine K_run hB 100 ?_
     simp [go_sem,b5,b3,j1,j3,c2]
     have hl1:=hleast_spec o.order l' (by have:=t2.length_eq;have:=(take_some t1).2.2.2;omega) (σ:=oput (oput σ2 nx2 (.box [.i 0,.i 0,.i 0])) nx2 (.box [.i e.bound,.i e.depth,.i e.no])) (nx:=nx2+1) (h:=k.h) (q:=qn) (by omega) ((hold k.h (by omega)).trans g4) (by omega) ((hold qn g3).trans g5)
     rw [least_perm t2] at hl1
     have hmin:min (min s.up e.bound) (leastQ q')=min s.up (min e.bound (leastQ q')):=by omega
     refine K_drawnF [18,22] [1,7,8,14] rfl (by rw [hB];kernel_rfl) (by kernel_rfl) fun ht hf'=>?_
     refine K_run hB 100 ?_
     simp [go_sem,ht,hf',b5,j1,j2]
     refine K_dLook (v:=.i (leastQ q')) (fun ho=>?_) (by simp [go_sem,ht]) ?_
     ·exact does_call ho (by simp [go_sem]) rfl rfl (args:=[.ptr k.h 0]) (f:=50) (by simp [go_sem]) hl1
     have e4:σ2 k.lg= .arr 14 (logT s.log):=hsok2.b.log
     have e5:¬k.lg=2:=by omega
     have e6:¬k.lg=4:=fun e=>by have h1:=h.ok.b.log;rw [e,←hi1,h.ok.b.box] at h1;cases h1
     have e7:¬k.lg=nx2:=by omega
     refine K_run hB 100 ?_
     simp [go_sem,ht,hf',b5,b4,j1,j2,j4,j5,hmin,e4,e5,e6,e7]
     rw [←Option.some.inj hrun]
     rfl
    ·rw [if_neg c2,hg] at hrun
     have hno:=List.getElem?_eq_some_iff.1 hn
     obtain ⟨hno1,hno2⟩:=hno
     have hnl:(nodesT s.subs).length=s.subs.length:=List.length_map _
     have hgn:∀h,(nodesT s.subs)[e.no]'h=n.t:=fun h=>by rw [nodesT_get _ hno1,hno2]
     have hsb2:σ2 k.sb= .arr 10 (nodesT s.subs):=hsok2.b.subs
     have j6:¬k.sb=nx2:=by have:=hsok2.b.lt;simp only at this;omega
     refine K_run hB 100 ?_
     simp [go_sem,b5,b3,j1,j3,c2]
     refine K_drawnZ [] 9 _ rfl (by rw [hB];kernel_rfl) (by kernel_rfl) rfl ?_
     refine K_run hB 100 ?_
     simp [go_sem,b5,j1,hsb2,j6,hnl,hno1,hgn,Node.t]
     refine K_callQ rfl rfl rfl (args:=[.ptr k.s 0,n.a]) (f:=51) (by simp [go_sem,Node.a,Node.cs,hi1]) (by simp [go_sem,hB]) (slook_spec x o {k with q:=qn} (s.left q') n (look_pre hx cm hp3 htn hw) ⟨hpre.steps,hpre.subs,by have h1:=t2.length_eq;have h2:=(take_some t1).2.2.2;show q'.length<_;omega,hpre.log⟩ (nx:=nx2+1) hst2.1) fun r σ4 nx4 hq=>?_
     obtain ⟨rfl,k4,e1,e2⟩:=hq
     refine K_run hB 100 ?_
     simp [go_sem]
     exact Next.mk (f,x.lookS o.width (s.left q') n,k4,_,nx4) (h.next hrun k1 e1 ((hruns2.trans hst2.2).trans e2)) (Imp.slots (by simp [go_sem]) rfl rfl) (by simp only;omega)
end Go.Proofs.YtnoifgjiipgpoaaGreatDoor

set_option maxRecDepth 4000
set_option maxHeartbeats 1000000
namespace Go.Proofs.YtnoifgjiipgpoaaGreatDoor
open Go Go.Proofs.YtnoifgjiipgpoaaGreatDoor.R
theorem small_search:(small.search ⟨1,0,100⟩).status=2∧(small.search ⟨1,0,100⟩).up=12∧(small.search ⟨1,0,100⟩).low=12∧(small.search ⟨1,0,100⟩).plan.length=1∧(small.search ⟨1,0,100⟩).log.length=1:=by decide+kernel
theorem search_told {x:Inst} {o:Opt} (hl:x.stops.length≤7) (hm:x.may=true) (ho:o.mayB=true) (hw:o.width≤40):Told x (x.search o):=by
 obtain ⟨p,hx⟩:=x.fit hm
 have hp:p≤3:=by have:=hx.len;omega
 have hg:=start_going hx hm hp
 exact run_told (by omega) hm o 1850 x.start _ hg.inv hg.cov (search_is hx hm hp ho hw)
end Go.Proofs.YtnoifgjiipgpoaaGreatDoor

set_option maxRecDepth 4000
set_option maxHeartbeats 1000000
namespace Go.Proofs.YtnoifgjiipgpoaaGreatDoor
open Go Go.Proofs.YtnoifgjiipgpoaaGreatDoor.R
structure Whole (x:Inst) (r:SRes):Prop where
 low:r.low=r.up
 least:∀v c,x.way v x.rootS c→r.up≤c
 some:r.up<inf→r.status=2∧∃v,x.way v x.rootS r.up
 none:¬r.up<inf→r.status=3∧r.up=inf
end Go.Proofs.YtnoifgjiipgpoaaGreatDoor

set_option maxRecDepth 4000
set_option maxHeartbeats 1000000
namespace Go.Proofs.YtnoifgjiipgpoaaGreatDoor
open Go Go.Proofs.YtnoifgjiipgpoaaGreatDoor.R
theorem look_log (x:Inst) (w:Int) (s:SS) (n:Node):(x.lookS w s n).log=s.log++[(n,x.build n w (s.nar x w n).up)]:=by
 have h1:(s.nar x w n).log=s.log:=(offer_up (s.plus (x.narrow n w s.up).2.2) ((x.narrow n w s.up).1,(x.narrow n w s.up).2.1)).2.2.2.1
 rw [Inst.lookS,←h1]
 generalize s.nar x w n=t
 unfold Inst.lookD
 split
 ·rfl
 split
 ·exact (offer_up _ _).2.2.2.1
 ·rw [Inst.branch,(pushes_up x _ _ _).2.1,(offers_up x _ _).2.2.2.1]
  rfl
end Go.Proofs.YtnoifgjiipgpoaaGreatDoor

set_option maxRecDepth 4000
namespace Go.Proofs.YtnoifgjiipgpoaaGreatDoor
open Go Go.Proofs.YtnoifgjiipgpoaaGreatDoor.R
def Off (a b:List Int):Prop:=¬a <+:b∧¬b <+:a
def SS.pathsQ (s:SS):List (List Int):=s.q.map fun e=>(s.subs.getD e.no Node.zero).path
structure LogI (s:SS):Prop where
 apart:s.pathsQ.Pairwise Off
 new:∀q∈s.pathsQ,∀d∈s.log,¬q <+:d.1.path
 nodup:(s.log.map fun d=>d.1.path).Nodup
 first:s.log=[]→∀q∈s.pathsQ,q=[]
 head:∀d l,s.log=d :: l→d.1.path=[]∧∀e∈l,e.1.path≠[]
theorem layN_lead {x:Inst} {n:Node} (up:Int):∀(k:Nat),∀m∈x.layN up n k,n.path <+:m.path
 |0,m,hm=>by rw [List.mem_singleton.1 hm];exact List.prefix_refl _
 |k+1,m,hm=>by
  obtain ⟨q,hq,j,hj,rfl,_⟩:=next_mem hm
  exact (layN_lead up k q hq).trans (List.prefix_append _ _)
theorem pushes_paths {x:Inst} {low:Int}:∀(l:List Node) (s:SS),(∀e∈s.q,∃m,s.subs[e.no]? =some m)→∃k:List Node,k.Sublist l∧(l.foldl (x.push low) s).pathsQ=s.pathsQ++k.map Node.path
 |[],s,_=>⟨[],List.Sublist.refl _,by simp⟩
 |n :: l,s,hn=>by
  obtain ⟨k,h1,h2⟩:=pushes_paths (x:=x) (low:=low) l (x.push low s n) (push_nos hn)
  rw [List.foldl_cons,h2]
  rcases push_or x low s n with ⟨e,_⟩ | ⟨_,e⟩
  ·rw [e];exact ⟨k,h1.cons _,rfl⟩
  ·refine ⟨n :: k,h1.cons_cons _,?_⟩
   have:(x.push low s n).pathsQ=s.pathsQ++[n.path]:=by
    rw [e,SS.pathsQ,SS.pathsQ]
    simp only
    rw [List.map_append,List.map_cons,List.map_nil]
    have h2:(s.subs++[n])[s.subs.length]? =some n:=by simp
    rw [getD_of h2]
    congr 1
    refine List.map_congr_left fun e he=>?_
    obtain ⟨m,hm⟩:=hn e he
    rw [getD_of hm,getD_of (get_old hm)]
   rw [this,List.append_assoc]
   rfl
theorem take_split {o:Int} {q:List Ent} {e:Ent} {q':List Ent} (h:takeQ o q=some (e,q')):∃a b,q=a++e :: b∧q'=a++b:=by
 unfold takeQ at h
 split at h
 ·cases h
 rename_i hq
 have hk:=minI_lt o hq
 obtain ⟨h1,h2⟩:=Prod.mk.inj (Option.some.inj h)
 refine ⟨q.take (minI o q),q.drop (minI o q+1),?_,h2.symm⟩
 have hg:q.getD (minI o q) Ent.zero=q[minI o q]:=by rw [List.getD_eq_getElem?_getD,List.getElem?_eq_getElem hk];rfl
 rw [←h1,hg,←List.drop_eq_getElem_cons hk,List.take_append_drop]
theorem LogI.left {s:SS} (h:LogI s) {o:Int} {e:Ent} {q:List Ent} (ht:takeQ o s.q=some (e,q)):LogI (s.left q)∧(∀p∈(s.left q).pathsQ,Off (s.subs.getD e.no Node.zero).path p)∧(s.subs.getD e.no Node.zero).path∈s.pathsQ:=by
 obtain ⟨a,b,h1,h2⟩:=take_split ht
 have e1:s.pathsQ=(a.map fun e=>(s.subs.getD e.no Node.zero).path)++(s.subs.getD e.no Node.zero).path :: (b.map fun e=>(s.subs.getD e.no Node.zero).path):=by rw [SS.pathsQ,h1,List.map_append,List.map_cons]
 have e2:(s.left q).pathsQ=(a.map fun e=>(s.subs.getD e.no Node.zero).path)++(b.map fun e=>(s.subs.getD e.no Node.zero).path):=by rw [SS.pathsQ,←List.map_append,←h2];rfl
 have hap:=h.apart
 rw [e1,List.pairwise_append,List.pairwise_cons] at hap
 obtain ⟨p1,⟨p2,p3⟩,p4⟩:=hap
 have hsub:∀p∈(s.left q).pathsQ,p∈s.pathsQ:=fun p hp=>by
  rw [e2] at hp
  rw [e1]
  rcases List.mem_append.1 hp with hp | hp
  ·exact List.mem_append_left _ hp
  ·exact List.mem_append_right _ (List.mem_cons_of_mem _ hp)
 refine ⟨⟨?_,fun p hp=>h.new p (hsub p hp),h.nodup,fun hl p hp=>h.first hl p (hsub p hp),h.head⟩,fun p hp=>?_,by rw [e1];simp⟩
 ·rw [e2,List.pairwise_append]
  exact ⟨p1,p3,fun u hu v hv=>p4 u hu v (List.mem_cons_of_mem _ hv)⟩
 ·rw [e2] at hp
  rcases List.mem_append.1 hp with hp | hp
  ·obtain ⟨g1,g2⟩:=p4 p hp _ List.mem_cons_self
   exact ⟨g2,g1⟩
  ·exact p2 p hp
theorem look_paths {x:Inst} (hm:x.may=true) {n:Node} (ht:Track x n) (w:Int) {s:SS} (hs:∀e∈s.q,∃m,s.subs[e.no]? =some m):∃l:List Node,(x.lookS w s n).pathsQ=s.pathsQ++l.map Node.path∧(∀m∈l,n.path <+:m.path∧m.path≠n.path)∧(l.map Node.path).Pairwise Off:=by
 have q1:(s.nar x w n).subs=s.subs∧(s.nar x w n).q=s.q:=⟨(offer_up _ _).2.1,(offer_up _ _).2.2.1⟩
 rw [Inst.lookS]
 generalize s.nar x w n=t at *
 have hlike:∀u:SS,u.subs=s.subs→u.q=s.q→u.pathsQ=s.pathsQ:=fun u h1 h2=>by rw [SS.pathsQ,SS.pathsQ,h1,h2]
 rw [Inst.lookD]
 split
 ·exact ⟨[],by rw [hlike (t.dia n (x.build n w t.up)) q1.1 q1.2];simp,fun m hm=>(by cases hm),List.Pairwise.nil⟩
 split
 ·have h3:=offer_up ((t.dia n (x.build n w t.up)).plus (x.exact n (t.dia n (x.build n w t.up)).up (x.mostN w)).2.2.2) ((x.exact n (t.dia n (x.build n w t.up)).up (x.mostN w)).1,(x.exact n (t.dia n (x.build n w t.up)).up (x.mostN w)).2.1)
  exact ⟨[],(hlike _ (h3.2.1.trans q1.1) (h3.2.2.1.trans q1.2)).trans (by simp),fun m hm=>(by cases hm),List.Pairwise.nil⟩
 ·rename_i c1 c2
  have htwo:=build_two x n w t.up (by simpa using c2)
  have hok:=build_ok x n w t.up
  obtain ⟨k,hk⟩:∃k,(x.build n w t.up).sure-1=k+1:=⟨(x.build n w t.up).sure-2,by omega⟩
  rw [Inst.branch]
  obtain ⟨hl,hlast⟩:=sure_get hok (i:=(x.build n w t.up).sure-1) (by omega)
  rw [List.getD_eq_getElem?_getD,List.getElem?_eq_getElem hl,Option.getD_some,hlast,hk]
  have ho:=offers_up x ((x.build n w t.up).layers.take ((x.build n w t.up).sure-1)) (t.dia n (x.build n w t.up))
  rw [hk] at ho
  generalize x.offers (t.dia n (x.build n w t.up)) ((x.build n w t.up).layers.take (k+1))=S at *
  have g1:S.subs=s.subs:=ho.2.1.trans q1.1
  have g2:S.q=s.q:=ho.2.2.1.trans q1.2
  obtain ⟨l,h1,h2⟩:=pushes_paths (x:=x) (low:=(x.build n w t.up).low) (x.layN t.up n (k+1)) S (by rw [g1,g2];exact hs)
  have hmem:∀m∈l,m∈x.layN t.up n (k+1):=fun m hm=>h1.subset hm
  have htr:=fun m hm=>layN_track ht t.up (k+1) m (hmem m hm)
  refine ⟨l,by rw [h2,hlike _ g1 g2],fun m hm=>⟨layN_lead t.up _ m (hmem m hm),fun e=>?_⟩,?_⟩
  ·have:=(htr m hm).2
   rw [e] at this
   omega
  ·have hnd:(l.map Node.s).Nodup:=((h1.map Node.s).nodup (next_nodup x (x.layN t.up n k) t.up))
   rw [List.Nodup,List.pairwise_map] at hnd
   rw [List.pairwise_map]
   refine hnd.imp_of_mem fun {a b} ha hb hne=>?_
   have h3:=htr a ha
   have h4:=htr b hb
   have key:a.path≠b.path:=fun e=>hne (by
    have g3:=h3.1.goes
    rw [e,h4.1.goes] at g3
    exact (congrArg Prod.fst (Option.some.inj g3)).symm)
   exact ⟨fun hp=>key (hp.eq_of_length (by rw [h3.2,h4.2])),fun hp=>key (hp.eq_of_length (by rw [h3.2,h4.2])).symm⟩
theorem LogI.look {x:Inst} (hm:x.may=true) {s:SS} (h:LogI s) {n:Node} (ht:Track x n) {w:Int} {o:Int} {e:Ent} {q:List Ent} (htk:takeQ o s.q=some (e,q)) (hn:s.subs.getD e.no Node.zero=n) (hs:∀f∈q,∃m,s.subs[f.no]? =some m):LogI (x.lookS w (s.left q) n):=by
 obtain ⟨h1,h2,h3⟩:=h.left htk
 rw [hn] at h2 h3
 obtain ⟨l,l1,l2,l3⟩:=look_paths hm ht w (s:=s.left q) hs
 have hlog:(x.lookS w (s.left q) n).log=s.log++[(n,x.build n w ((s.left q).nar x w n).up)]:=look_log x w (s.left q) n
 have hnew:=h.new _ h3
 refine ⟨?_,fun p hp d hd=>?_,?_,fun hl=>?_,fun d t hdt=>?_⟩
 ·rw [l1,List.pairwise_append]
  refine ⟨h1.apart,l3,fun a ha b hb=>?_⟩
  obtain ⟨m,hm',rfl⟩:=List.mem_map.1 hb
  obtain ⟨g1,g2⟩:=l2 m hm'
  obtain ⟨k1,k2⟩:=h2 a ha
  refine ⟨fun hp=>?_,fun hp=>k1 (g1.trans hp)⟩
  rcases List.prefix_or_prefix_of_prefix g1 hp with h | h
  ·exact k1 h
  ·exact k2 h
 ·rw [l1] at hp
  rw [hlog] at hd
  rcases List.mem_append.1 hp with hp | hp
  ·rcases List.mem_append.1 hd with hd | hd
   ·exact h1.new p hp d hd
   ·rw [List.mem_singleton.1 hd]
    exact (h2 p hp).2
  ·obtain ⟨m,hm',rfl⟩:=List.mem_map.1 hp
   obtain ⟨g1,g2⟩:=l2 m hm'
   rcases List.mem_append.1 hd with hd | hd
   ·exact fun hp=>hnew d hd (g1.trans hp)
   ·rw [List.mem_singleton.1 hd]
    intro hp
    have a1:=g1.length_le
    have a2:=hp.length_le
    exact g2 (g1.eq_of_length (by simp only at a2;omega)).symm
 ·rw [hlog,List.map_append,List.nodup_append]
  refine ⟨h.nodup,by simp,fun a ha b hb e=>?_⟩
  rw [List.map_cons,List.map_nil,List.mem_singleton] at hb
  subst e
  obtain ⟨d,hd,hde⟩:=List.mem_map.1 ha
  refine hnew d hd ?_
  rw [hde,hb]
  exact List.prefix_refl _
 ·rw [hlog] at hl
  exact absurd hl (by simp)
 ·rw [hlog] at hdt
  cases hsl:s.log with
  |nil=>
   rw [hsl] at hdt
   simp only [List.nil_append,List.cons.injEq] at hdt
   obtain ⟨rfl,rfl⟩:=hdt
   exact ⟨h.first hsl _ h3,fun e he=>(by cases he)⟩
  |cons a l=>
   rw [hsl] at hdt
   simp only [List.cons_append,List.cons.injEq] at hdt
   obtain ⟨rfl,rfl⟩:=hdt
   obtain ⟨g1,g2⟩:=h.head a l hsl
   refine ⟨g1,fun e he=>?_⟩
   rcases List.mem_append.1 he with he | he
   ·exact g2 e he
   ·rw [List.mem_singleton.1 he]
    intro hnil
    refine hnew a (by rw [hsl];simp) ?_
    have hnil':n.path=[]:=hnil
    rw [hnil']
    exact List.nil_prefix
theorem start_logI (x:Inst):LogI x.start:=by
 have h0:LogI ⟨[],[],inf,[],0,[]⟩:=⟨List.Pairwise.nil,fun q hq=>(by cases hq),List.nodup_nil,fun _ q hq=>(by cases hq),fun d l h=>(by cases h)⟩
 have hlog:x.start.log=[]:=(push_up x 0 ⟨[],[],inf,[],0,[]⟩ x.rootN).2.1
 obtain ⟨k,h1,h2⟩:=pushes_paths (x:=x) (low:=0) [x.rootN] ⟨[],[],inf,[],0,[]⟩ fun e he=>by cases he
 have hq:x.start.pathsQ=k.map Node.path:=by
  have:x.start.pathsQ=([x.rootN].foldl (x.push 0) ⟨[],[],inf,[],0,[]⟩).pathsQ:=rfl
  rw [this,h2];rfl
 have hk:∀q∈x.start.pathsQ,q=[]:=fun q h=>by
  rw [hq] at h
  obtain ⟨m,hm,rfl⟩:=List.mem_map.1 h
  rw [List.mem_singleton.1 (h1.subset hm)]
  rfl
 refine ⟨?_,fun q _ d hd=>(by rw [hlog] at hd;cases hd),(by rw [hlog];exact List.nodup_nil),fun _=>hk,fun d l h=>(by rw [hlog] at h;cases h)⟩
 rw [hq]
 have hlen:=h1.length_le
 match k,hlen with
 |[],_=>exact List.Pairwise.nil
 |[a],_=>exact List.pairwise_singleton _ _
end Go.Proofs.YtnoifgjiipgpoaaGreatDoor

set_option maxRecDepth 4000
namespace Go.Proofs.YtnoifgjiipgpoaaGreatDoor
open Go Go.Proofs.YtnoifgjiipgpoaaGreatDoor.R
def Settled (x:Inst) (s:SS) (k0:Nat) (low:Int) (m:Node):Prop:=
 s.up≤max low (x.of m)∨(∃e∈s.q,s.subs[e.no]? =some m∧e.bound=max low (x.of m))∨∃j:Nat,k0≤j∧∃D,s.log[j]? =some (m,D)
def LogE (x:Inst) (w:Int) (s:SS) (k:Nat) (n:Node) (d:Diag):Prop:=
 Track x n∧∃u,d=x.build n w u∧s.up≤u∧
  (s.up≤d.low∨(d.exact=true∧∀v c,x.way v n.s c→s.up≤n.cost+c)∨
   (d.exact=false∧(∀i,i<d.sure-1→(x.bests (x.layN u n i)).2=true→s.up≤(x.bests (x.layN u n i)).1.cost)∧∀m∈x.layN u n (d.sure-1),Settled x s (k+1) d.low m))
structure LogX (x:Inst) (w:Int) (s:SS):Prop where
 all:∀(k:Nat) n d,s.log[k]? =some (n,d)→LogE x w s k n d
 root:Settled x s 0 0 x.rootN
 pos:∀e∈s.q,0≤e.bound
theorem Settled.step {x:Inst} {s t:SS} {k0:Nat} {low:Int} {m:Node} (h:Settled x s k0 low m) (hup:t.up≤s.up) (hlog:∀(j:Nat) a,s.log[j]? =some a→t.log[j]? =some a) (hq:∀e∈s.q,s.subs[e.no]? =some m→e.bound=max low (x.of m)→Settled x t k0 low m):Settled x t k0 low m:=by
 rcases h with h | ⟨e,he,h1,h2⟩ | ⟨j,hj,D,hD⟩
 ·exact .inl (by omega)
 ·exact hq e he h1 h2
 ·exact .inr (.inr ⟨j,hj,D,hlog j _ hD⟩)
theorem LogE.step {x:Inst} {w:Int} {s t:SS} {k:Nat} {n:Node} {d:Diag} (h:LogE x w s k n d) (hup:t.up≤s.up) (hs:∀low m,Settled x s (k+1) low m→Settled x t (k+1) low m):LogE x w t k n d:=by
 obtain ⟨h1,u,h2,h3,h4⟩:=h
 refine ⟨h1,u,h2,by omega,?_⟩
 rcases h4 with h4 | ⟨h4,h5⟩ | ⟨h4,h5,h6⟩
 ·exact .inl (by omega)
 ·exact .inr (.inl ⟨h4,fun v c hv=>by have:=h5 v c hv;omega⟩)
 ·exact .inr (.inr ⟨h4,fun i hi hb=>by have:=h5 i hi hb;omega,fun m hm=>hs _ m (h6 m hm)⟩)
structure Ext (s t:SS):Prop where
 q:∀e∈s.q,e∈t.q
 subs:∀(i:Nat) m,s.subs[i]? =some m→t.subs[i]? =some m
theorem Ext.trans {s t u:SS} (h:Ext s t) (k:Ext t u):Ext s u:=⟨fun e he=>k.q e (h.q e he),fun i m hm=>k.subs i m (h.subs i m hm)⟩
theorem Ext.like {s t:SS} (h1:t.subs=s.subs) (h2:t.q=s.q):Ext s t:=⟨fun e he=>by rw [h2];exact he,fun i m hm=>by rw [h1];exact hm⟩
theorem push_ext (x:Inst) (low:Int) (s:SS) (n:Node):Ext s (x.push low s n):=by
 rcases push_or x low s n with ⟨e,_⟩ | ⟨_,e⟩
 ·rw [e];exact Ext.like rfl rfl
 ·rw [e];exact ⟨fun f hf=>List.mem_append_left _ hf,fun i m hm=>get_old hm⟩
theorem pushes_ext (x:Inst) (low:Int):∀(l:List Node) (s:SS),Ext s (l.foldl (x.push low) s)
 |[],s=>Ext.like rfl rfl
 |n :: l,s=>(push_ext x low s n).trans (pushes_ext x low l (x.push low s n))
theorem pushes_got (x:Inst) (low:Int):∀(l:List Node) (s:SS),∀m∈l,s.up≤max low (x.of m)∨∃e∈(l.foldl (x.push low) s).q,(l.foldl (x.push low) s).subs[e.no]? =some m∧e.bound=max low (x.of m)
 |[],s,m,hm=>by cases hm
 |n :: l,s,m,hm=>by
  rcases List.mem_cons.1 hm with rfl | hm
  ·rcases push_or x low s m with ⟨_,e⟩ | ⟨_,e⟩
   ·exact .inl e
   ·have hx:=pushes_ext x low l (x.push low s m)
    refine .inr ⟨⟨max low (x.of m),m.path.length,s.subs.length⟩,hx.q _ ?_,hx.subs _ _ ?_,rfl⟩
    ·rw [e];exact List.mem_append_right _ (List.mem_singleton.2 rfl)
    ·rw [e];simp
  ·rcases pushes_got x low l (x.push low s n) m hm with h | h
   ·rw [(push_up x low s n).1] at h
    exact .inl h
   ·exact .inr h
theorem pushes_pos (x:Inst) (low:Int):∀(l:List Node) (s:SS),(∀e∈s.q,0≤e.bound)→∀e∈(l.foldl (x.push low) s).q,0≤e.bound
 |[],s,h=>h
 |n :: l,s,h=>by
  refine pushes_pos x low l (x.push low s n) fun e he=>?_
  rcases push_or x low s n with ⟨e1,_⟩ | ⟨_,e1⟩
  ·rw [e1] at he;exact h e he
  ·rw [e1] at he
   rcases List.mem_append.1 he with he | he
   ·exact h e he
   ·rw [List.mem_singleton.1 he]
    have:=sumI_nn n.cost (x.low n.s)
    show 0≤max low (x.of n)
    rw [Inst.of]
    omega
theorem look_x {x:Inst} (hst:x.stops.length<2^31) (hm:x.may=true) {n:Node} (ht:Track x n) (w:Int) (s:SS) (hp:∀e∈s.q,0≤e.bound):Ext s (x.lookS w s n)∧(∀e∈(x.lookS w s n).q,0≤e.bound)∧LogE x w (x.lookS w s n) s.log.length n (x.build n w (s.nar x w n).up):=by
 have q0:=offer_up (s.plus (x.narrow n w s.up).2.2) ((x.narrow n w s.up).1,(x.narrow n w s.up).2.1)
 have q1:(s.nar x w n).subs=s.subs∧(s.nar x w n).q=s.q∧(s.nar x w n).log=s.log:=⟨q0.2.1,q0.2.2.1,q0.2.2.2.1⟩
 rw [Inst.lookS]
 generalize s.nar x w n=t at *
 rw [←q1.2.2]
 have hok:=build_ok x n w t.up
 have hex:=exact_whole hm ht w (up:=t.up) (u:=t.up) (Int.le_refl _)
 have hd:∃d,x.build n w t.up=d:=⟨_,rfl⟩
 obtain ⟨d,hd⟩:=hd
 rw [hd] at hok hex ⊢
 have e0:Ext s (t.dia n d):=Ext.like q1.1 q1.2.1
 rw [Inst.lookD]
 split
 ·rename_i c1
  exact ⟨e0,fun e he=>hp e (by rw [←q1.2.1];exact he),ht,t.up,hd.symm,Int.le_refl _,.inl c1⟩
 split
 ·rename_i c1 c2
  have hall:=hex c2
  rw [SS.exa]
  have hdu:(t.dia n d).up=t.up:=rfl
  rw [hdu]
  have ho:=offer_up ((t.dia n d).plus (x.exact n t.up (x.mostN w)).2.2.2) ((x.exact n t.up (x.mostN w)).1,(x.exact n t.up (x.mostN w)).2.1)
  have hg:=offer_gets ((t.dia n d).plus (x.exact n t.up (x.mostN w)).2.2.2) ((x.exact n t.up (x.mostN w)).1,(x.exact n t.up (x.mostN w)).2.1)
  have hu3:((t.dia n d).plus (x.exact n t.up (x.mostN w)).2.2.2).up=t.up:=rfl
  have hs3:((t.dia n d).plus (x.exact n t.up (x.mostN w)).2.2.2).subs=t.subs:=rfl
  have hq3:((t.dia n d).plus (x.exact n t.up (x.mostN w)).2.2.2).q=t.q:=rfl
  generalize (t.dia n d).plus (x.exact n t.up (x.mostN w)).2.2.2=z at *
  have ho1:=ho.1
  refine ⟨Ext.like (ho.2.1.trans (hs3.trans q1.1)) (ho.2.2.1.trans (hq3.trans q1.2.1)),fun e he=>hp e ?_,ht,t.up,hd.symm,by omega,.inr (.inl ⟨c2,fun v c hv=>?_⟩)⟩
  ·rw [ho.2.2.1,hq3,q1.2.1] at he
   exact he
  ·by_cases hlt:n.cost+c<t.up
   ·obtain ⟨e1,e2⟩:=exact_has hst ht.is.ok ht.is.pos ht.is.seen ht.fit hall hv hlt
    have:=hg e1
    simp only at this
    omega
   ·omega
 ·rename_i c1 c2
  rw [Inst.branch]
  have hpos:=hok.pos
  obtain ⟨hl,hlast⟩:=sure_get hok (i:=d.sure-1) (by omega)
  rw [List.getD_eq_getElem?_getD,List.getElem?_eq_getElem hl,Option.getD_some,hlast]
  have ho:=offers_up x (d.layers.take (d.sure-1)) (t.dia n d)
  have hget:∀i,i<d.sure-1→(x.bests (x.layN t.up n i)).2=true→(x.offers (t.dia n d) (d.layers.take (d.sure-1))).up≤(x.bests (x.layN t.up n i)).1.cost:=fun i hi=>by
   obtain ⟨hl2,e2⟩:=sure_get hok (i:=i) (by omega)
   exact offers_gets x _ _ _ (by rw [←e2];exact List.mem_take_iff_getElem.2 ⟨i,by omega,rfl⟩)
  have hdu:(t.dia n d).up=t.up:=rfl
  have hds:(t.dia n d).subs=t.subs:=rfl
  have hdq:(t.dia n d).q=t.q:=rfl
  generalize x.offers (t.dia n d) (d.layers.take (d.sure-1))=S at *
  have hpu:=pushes_up x d.low (x.layN t.up n (d.sure-1)) S
  have hgot:=pushes_got x d.low (x.layN t.up n (d.sure-1)) S
  have hext:=pushes_ext x d.low (x.layN t.up n (d.sure-1)) S
  have hpp:=pushes_pos x d.low (x.layN t.up n (d.sure-1)) S fun e he=>hp e (by rw [ho.2.2.1,hdq,q1.2.1] at he;exact he)
  generalize (x.layN t.up n (d.sure-1)).foldl (x.push d.low) S=U at *
  have ho1:=ho.1
  refine ⟨(Ext.like (ho.2.1.trans (hds.trans q1.1)) (ho.2.2.1.trans (hdq.trans q1.2.1))).trans hext,hpp,ht,t.up,hd.symm,by omega,.inr (.inr ⟨by simpa using c2,fun i hi hb=>?_,fun m hmm=>?_⟩)⟩
  ·have:=hget i hi hb
   omega
  ·rcases hgot m hmm with h | h
   ·exact .inl (by omega)
   ·exact .inr (.inl h)
theorem LogX.skip {x:Inst} {w:Int} {s:SS} (h:LogX x w s) {o:Int} {e:Ent} {q:List Ent} (ht:takeQ o s.q=some (e,q)) (c:s.up≤e.bound):LogX x w (s.left q):=by
 obtain ⟨t1,t2,t3,t4⟩:=take_some ht
 have hs:∀k0 low m,Settled x s k0 low m→Settled x (s.left q) k0 low m:=fun k0 low m hset=>Settled.step hset (Int.le_refl _) (fun j a h=>h) fun f hf h1 h2=>by
  rcases t2 f hf with rfl | hf
  ·exact .inl (by show s.up≤_;omega)
  ·exact .inr (.inl ⟨f,hf,h1,h2⟩)
 exact ⟨fun k n d hk=>(h.all k n d hk).step (Int.le_refl _) fun low m=>hs _ low m,hs _ _ _ h.root,fun f hf=>h.pos f (t3 f hf)⟩
theorem LogX.look {x:Inst} (hst:x.stops.length<2^31) (hm:x.may=true) {w:Int} {s:SS} (h:LogX x w s) {o:Int} {e:Ent} {q:List Ent} (htk:takeQ o s.q=some (e,q)) {n:Node} (hn:s.subs[e.no]? =some n) (ht:Track x n):LogX x w (x.lookS w (s.left q) n):=by
 obtain ⟨t1,t2,t3,t4⟩:=take_some htk
 obtain ⟨g1,g2,g3⟩:=look_x hst hm ht w (s.left q) fun f hf=>h.pos f (t3 f hf)
 have hlog:(x.lookS w (s.left q) n).log=s.log++[(n,x.build n w ((s.left q).nar x w n).up)]:=look_log x w (s.left q) n
 have hup:(x.lookS w (s.left q) n).up≤s.up:=look_up x w (s.left q) n
 have e1:(s.left q).log=s.log:=rfl
 have e2:(s.left q).subs=s.subs:=rfl
 have e3:(s.left q).q=q:=rfl
 rw [e1] at g3
 generalize x.build n w ((s.left q).nar x w n).up=D at *
 generalize x.lookS w (s.left q) n=t at *
 have hold:∀(j:Nat) a,s.log[j]? =some a→t.log[j]? =some a:=fun j a ha=>by rw [hlog];exact get_old ha
 have hnew:t.log[s.log.length]? =some (n,D):=by rw [hlog];simp
 have hs:∀k0 low m,k0≤s.log.length→Settled x s k0 low m→Settled x t k0 low m:=fun k0 low m hk0 hset=>Settled.step hset hup hold fun f hf h1 h2=>by
  rcases t2 f hf with rfl | hf
  ·rw [hn] at h1
   cases h1
   exact .inr (.inr ⟨s.log.length,hk0,D,hnew⟩)
  ·exact .inr (.inl ⟨f,g1.q f (by rw [e3];exact hf),g1.subs _ _ (by rw [e2];exact h1),h2⟩)
 refine ⟨fun k m d hk=>?_,hs _ _ _ (Nat.zero_le _) h.root,g2⟩
 by_cases hlt:k<s.log.length
 ·have hk':s.log[k]? =some (m,d):=by rw [hlog,List.getElem?_append_left hlt] at hk;exact hk
  exact (h.all k m d hk').step hup fun low m=>hs _ low m (by omega)
 ·have hk2:=(List.getElem?_eq_some_iff.1 hk).1
  rw [hlog,List.length_append,List.length_singleton] at hk2
  have:k=s.log.length:=by omega
  subst this
  rw [hnew] at hk
  cases hk
  exact g3
def DoneE (x:Inst) (w:Int) (r:SRes) (k:Nat) (n:Node) (d:Diag):Prop:=
 Track x n∧∃u,d=x.build n w u∧r.low≤u∧
  (r.low≤d.low∨(d.exact=true∧∀v c,x.way v n.s c→r.low≤n.cost+c)∨
   (d.exact=false∧(∀i,i<d.sure-1→(x.bests (x.layN u n i)).2=true→r.low≤(x.bests (x.layN u n i)).1.cost)∧∀m∈x.layN u n (d.sure-1),r.low≤max d.low (x.of m)∨∃j:Nat,k+1≤j∧∃D,r.log[j]? =some (m,D)))
structure DoneX (x:Inst) (w:Int) (r:SRes):Prop where
 all:∀(k:Nat) n d,r.log[k]? =some (n,d)→DoneE x w r k n d
 root:r.low≤max 0 (x.of x.rootN)∨∃D,∃j:Nat,r.log[j]? =some (x.rootN,D)
 low:0≤r.low∧r.low≤inf
 nodup:(r.log.map fun d=>d.1.path).Nodup
 head:∀d l,r.log=d :: l→d.1.path=[]
 few:r.log.length≤1848
theorem LogX.done {x:Inst} {w:Int} {s:SS} (h:LogX x w s) {r:SRes} (hlog:r.log=s.log) (h1:r.low≤s.up) (h2:∀e∈s.q,r.low≤e.bound):(∀(k:Nat) n d,r.log[k]? =some (n,d)→DoneE x w r k n d)∧(r.low≤max 0 (x.of x.rootN)∨∃D,∃j:Nat,r.log[j]? =some (x.rootN,D)):=by
 have hs:∀k0 low m,Settled x s k0 low m→r.low≤max low (x.of m)∨∃j:Nat,k0≤j∧∃D,r.log[j]? =some (m,D):=fun k0 low m hset=>by
  rcases hset with h | ⟨e,he,_,h4⟩ | ⟨j,hj,D,hD⟩
  ·exact .inl (by omega)
  ·exact .inl (by have:=h2 e he;omega)
  ·exact .inr ⟨j,hj,D,by rw [hlog];exact hD⟩
 refine ⟨fun k n d hk=>?_,?_⟩
 ·rw [hlog] at hk
  obtain ⟨g1,u,g2,g3,g4⟩:=h.all k n d hk
  refine ⟨g1,u,g2,by omega,?_⟩
  rcases g4 with g4 | ⟨g4,g5⟩ | ⟨g4,g5,g6⟩
  ·exact .inl (by omega)
  ·exact .inr (.inl ⟨g4,fun v c hv=>by have:=g5 v c hv;omega⟩)
  ·exact .inr (.inr ⟨g4,fun i hi hb=>by have:=g5 i hi hb;omega,fun m hm=>hs _ _ m (g6 m hm)⟩)
 ·rcases hs _ _ _ h.root with h | ⟨j,_,D,hD⟩
  ·exact .inl h
  ·exact .inr ⟨D,j,hD⟩
theorem up_pos {x:Inst} (hm:x.may=true) {s:SS} (h:Found x s):0≤s.up:=by
 by_cases c:s.up<inf
 ·obtain ⟨v,hv⟩:=plan_way hm (h.plan c)
  exact (way_few hv).1
 ·have:inf=1152921504606846976:=rfl
  omega
theorem least_pos {q:List Ent} (h:∀e∈q,0≤e.bound):0≤leastQ q:=by
 cases q with
 |nil=>show (0:Int)≤inf;decide
 |cons e l=>
  have:∀(l:List Ent) (n:Int),0≤n→(∀e∈l,0≤e.bound)→0≤l.foldl (fun n f=>min n f.bound) n:=by
   intro l
   induction l with
   |nil=>exact fun n h _=>h
   |cons a l ih=>exact fun n h hl=>ih _ (by have:=hl a List.mem_cons_self;show 0≤min n a.bound;omega) fun e he=>hl e (List.mem_cons_of_mem _ he)
  exact this l _ (h e List.mem_cons_self) fun f hf=>h f (List.mem_cons_of_mem _ hf)
theorem run_doneX {x:Inst} {p:Nat} (hx:x.Fit p) (hm:x.may=true) (hp:p≤3) (o:Opt) (hw:o.width≤40):∀(N:Nat) (s:SS) (r:SRes),Going x p s→LogI s→LogX x o.width s→x.runGo o N s=some r→DoneX x o.width r
 |0,s,r,_,_,_,h=>by cases h
 |N+1,s,r,hs,hl,hX,h=>by
  have hst:x.stops.length<2^31:=by have:=hx.len;omega
  rw [Inst.runGo] at h
  have hup:=up_pos hm hs.inv.found
  have hle:=hs.inv.found.le
  have hfew:s.log.length≤1848:=by have:=hs.small.log;omega
  cases ht:takeQ o.order s.q with
  |none=>
   rw [ht] at h
   cases h
   obtain ⟨g1,g2⟩:=hX.done (r:=s.ends) rfl (Int.le_refl _) fun e he=>by rw [take_none ht] at he;cases he
   exact ⟨g1,g2,⟨hup,hle⟩,hl.nodup,fun d l h=>(hl.head d l h).1,hfew⟩
  |some r'=>
   obtain ⟨e,q⟩:=r'
   rw [ht] at h
   simp only at h
   obtain ⟨n,hn,hg,htn,k1,k2,k3⟩:=hs.look hx hm hp hw ht
   obtain ⟨t1,t2,t3,t4⟩:=take_some ht
   rw [hg] at h
   by_cases c1:s.up≤e.bound
   ·rw [if_pos c1] at h
    exact run_doneX hx hm hp o hw N (s.left q) r (hs.skip ht c1) (hl.left ht).1 (hX.skip ht c1) h
   rw [if_neg c1] at h
   by_cases c2:o.budget≤s.steps
   ·rw [if_pos c2] at h
    cases h
    have hlow:((s.left q).stop e).low=min s.up (min e.bound (leastQ q)):=rfl
    have hb:=hX.pos e t1
    have hlp:=least_pos fun f hf=>hX.pos f (t3 f hf)
    obtain ⟨g1,g2⟩:=hX.done (r:=(s.left q).stop e) rfl (by rw [hlow];omega) fun f hf=>by
     rw [hlow]
     rcases t2 f hf with rfl | hf
     ·omega
     ·have:=least_le hf
      omega
    exact ⟨g1,g2,by rw [hlow];omega,hl.nodup,fun d l h=>(hl.head d l h).1,hfew⟩
   rw [if_neg c2] at h
   exact run_doneX hx hm hp o hw N _ r k1 (hl.look hm htn ht hg fun f hf=>hs.inv.nos f (t3 f hf)) (hX.look hst hm ht hn htn) h
theorem start_logX (x:Inst) (w:Int):LogX x w x.start:=by
 have hlog:x.start.log=[]:=(push_up x 0 ⟨[],[],inf,[],0,[]⟩ x.rootN).2.1
 have hgot:=pushes_got x 0 [x.rootN] ⟨[],[],inf,[],0,[]⟩ x.rootN List.mem_cons_self
 have hup:=pushes_up x 0 [x.rootN] ⟨[],[],inf,[],0,[]⟩
 have hpp:=pushes_pos x 0 [x.rootN] ⟨[],[],inf,[],0,[]⟩ fun e he=>by cases he
 refine ⟨fun k n d h=>(by rw [hlog] at h;simp at h),?_,hpp⟩
 rcases hgot with h | h
 ·exact .inl (by show x.start.up≤_;rw [show x.start.up=inf from hup.1];exact h)
 ·exact .inr (.inl h)
theorem search_done {x:Inst} {o:Opt} (hl:x.stops.length≤7) (hm:x.may=true) (ho:o.mayB=true) (hw:o.width≤40):DoneX x o.width (x.search o):=by
 obtain ⟨p,hx⟩:=x.fit hm
 have hp:p≤3:=by have:=hx.len;omega
 exact run_doneX hx hm hp o hw 1850 x.start _ (start_going hx hm hp) (start_logI x) (start_logX x o.width) (search_is hx hm hp ho hw)
end Go.Proofs.YtnoifgjiipgpoaaGreatDoor

set_option maxRecDepth 4000
set_option maxHeartbeats 1000000
namespace Go.Proofs.YtnoifgjiipgpoaaGreatDoor
open Go Go.Proofs.YtnoifgjiipgpoaaGreatDoor.R
theorem eqints_pure (a b:List Int) (ha:a.length<2^62) (hb:b.length<2^62):Pure P 56 [.t (.sl (ints a)),.t (.sl (ints b))] (.b (decide (a=b))):=by
 generalize hR:decide (a=b)=R
 refine pure_of Tryz.func56 rfl rfl (by simp [Tryz.f56]) (by simp [bnd,bnd.bndL]) (by simp [bnd,bnd.bndL]) fun B hB hnx=>?_
 simp only [Tryz.f56] at hB ⊢
 have h1:(ints a).length=a.length:=List.length_map _
 have h2:(ints b).length=b.length:=List.length_map _
 by_cases c0:a.length=b.length
 rotate_left
 ·have:R=false:=by rw [←hR];exact decide_eq_false (fun e=>c0 (by rw [e]))
  refine K_run hB 100 ?_
  simp [go_sem,h1,h2,c0,this]
 refine K_run hB 100 ?_
 simp [go_sem,h1,h2,c0]
 refine K_loopP (α:=Nat) (fun k=>k≤a.length∧a.take k=b.take k) (fun k=>⟨sl [(0,.t (.sl (ints a))),(1,.t (.sl (ints b))),(12,.i b.length),(13,.i k)],_,_⟩) (fun k=>a.length-k) 0 ⟨Nat.zero_le _,rfl⟩ (Imp.slots (by simp [go_sem]) rfl rfl) ?_
 rintro k ⟨g0,g1⟩
 by_cases hk:k<a.length
 ·have hkb:k<b.length:=by omega
  have hkk:IntKind.i64.wrap ((k:Int)+1)=((k+1:Nat):Int):=by rw [w64 _ (by omega)];rfl
  have hga:=ints_getS a hk
  have hgb:=ints_getS b hkb
  have ta:a.take (k+1)=a.take k++[a[k]]:=List.take_succ_eq_append_getElem hk
  have tb:b.take (k+1)=b.take k++[b[k]]:=List.take_succ_eq_append_getElem hkb
  have hne:a[k]≠b[k]→a≠b:=fun h e=>h (by subst e;rfl)
  generalize a[k]=u at *
  generalize b[k]=v at *
  refine K_run hB 60 ?_
  simp [go_sem,hkb]
  refine K_drawn [] rfl (by rw [hB];kernel_rfl) ?_
  by_cases c1:u=v
  ·refine K_run hB 100 ?_
   simp [go_sem,h1,h2,hk,hkb,hga,hgb,c1,hkk]
   exact Next.mk (k+1) ⟨by omega,by rw [ta,tb,g1,c1]⟩ (Imp.slots (by simp [go_sem]) rfl rfl) (by omega)
  ·have:R=false:=by rw [←hR];exact decide_eq_false (hne c1)
   refine K_run hB 100 ?_
   simp [go_sem,h1,h2,hk,hkb,hga,hgb,c1,this]
 ·have e1:k=a.length:=by omega
  have e2:k=b.length:=by omega
  rw [e1,List.take_length,c0,List.take_length] at g1
  have:R=true:=by rw [←hR];exact decide_eq_true g1
  have hkb:¬k<b.length:=by omega
  refine K_run hB 100 ?_
  simp [go_sem,hkb,this]
def Done.a (d:Node×Diag):AV:=.agg (d.1.cs++d.2.cs)
theorem toeq_spec (n:Node) (d:Node×Diag) (hd:d.1.path.length<2^62) (hn:n.path.length<2^62) {σ:Nat→AObj} {nx q:Nat} (hq:q<nx) (hσ:σ q= .box n.cs):
  CallSpec P 212 [Done.a d,.ptr q 0] σ nx (.b (decide (d.1.path=n.path))) σ nx:=by
 have he:=eqints_pure d.1.path n.path hd hn
 generalize decide (d.1.path=n.path)=R at *
 refine spec_keep Tryz.func212 rfl rfl (by simp [Tryz.f212]) (by simp [bnd]) fun hk B hB hnx hσB=>?_
 simp only [Tryz.f212] at hB ⊢
 rw [Node.cs] at hσ
 have ne1:¬q=nx:=by omega
 refine K_run hB 100 ?_
 simp [go_sem,Done.a,Node.cs,Diag.cs,hσ,ne1]
 refine K_call rfl rfl rfl (args:=[.t (.sl (ints d.1.path)),.t (.sl (ints n.path))]) (f:=56) (by simp [go_sem]) (by simp [go_sem,hB]) ((he).spec _ _) ?_
 refine K_run hB 100 ?_
 simp [go_sem]
 exact fun i hi=>by simp [oput,show ¬i=nx by omega]
def idxP (v:List Int):Nat→List (Node×Diag)→Int
 |_,[]=>-1
 |i,d :: l=>if d.1.path=v then i else idxP v (i+1) l
theorem didx_spec (n:Node) (L:List (Node×Diag)) (hL:L.length<2^31) (hd:∀d∈L,d.1.path.length<2^62) (hn:n.path.length<2^62) {σ:Nat→AObj} {nx q:Nat} (hq:q<nx) (hσ:σ q= .box n.cs):
  CallSpec P 211 [.t (.sl (logT L)),.fn (.func 212) [] [.ptr q 0]] σ nx (.i (idxP n.path 0 L)) σ nx:=by
 generalize hR:idxP n.path 0 L=R
 refine spec_keep Tryz.func211 rfl rfl (by simp [Tryz.f211]) (by simp [bnd]) fun hk B hB hnx hσB=>?_
 simp only [Tryz.f211] at hB ⊢
 have hil:(logT L).length=L.length:=List.length_map _
 refine K_run hB 100 ?_
 simp [go_sem,hil]
 refine K_loopP (α:=Nat) (fun k=>k≤L.length∧idxP n.path k (L.drop k)=R) (fun k=>⟨sl [(0,.t (.sl (logT L))),(1,.fn (.func 212) [] [.ptr q 0]),(7,.i L.length),(8,.i k)],σ,nx⟩) (fun k=>L.length-k) 0 ⟨Nat.zero_le _,hR⟩ (Imp.slots (by simp [go_sem]) rfl rfl) ?_
 rintro k ⟨g1,g2⟩
 by_cases hk:k<L.length
 ·have hkk:IntKind.i64.wrap ((k:Int)+1)=((k+1:Nat):Int):=by rw [w64 ((k:Int)+1) (by omega)];rfl
  have hget:∀h,(logT L)[k]'h=Done.t L[k]:=fun h=>by simp [logT]
  have hs:=toeq_spec n L[k] (hd _ (List.getElem_mem _)) hn hq hσ
  rw [List.drop_eq_getElem_cons hk,idxP] at g2
  generalize L[k]=d at *
  refine K_run hB 100 ?_
  simp [go_sem,hil,hk,hget,Done.t,Node.t]
  refine K_call rfl rfl rfl (args:=[Done.a d,.ptr q 0]) (f:=212) (by simp [go_sem,Done.a,Node.cs,Diag.cs]) (by simp [go_sem,hB]) hs ?_
  by_cases c:d.1.path=n.path
  ·rw [if_pos c] at g2
   subst g2
   refine K_run hB 100 ?_
   simp [go_sem,c]
  ·rw [if_neg c] at g2
   refine K_run hB 100 ?_
   simp [go_sem,c,hkk]
   exact Next.mk (k+1) ⟨by omega,g2⟩ (Imp.slots (by simp [go_sem]) rfl rfl) (by omega)
 ·have:k=L.length:=by omega
  subst this
  rw [List.drop_length,idxP] at g2
  subst g2
  refine K_run hB 100 ?_
  simp [go_sem,hil]
def Inst.toN (x:Inst) (r:SRes) (n:Node):Int:=if x.deadB n.s n.cost r.low=true then 0 else idxP n.path 0 r.log+1
def mkC (x:Inst) (r:SRes):List AV:=[.i x.pairs,.i x.cars,.i x.room,.t (.sl (x.stops.map Stop.t)),.i r.status,.t (.sl (planT r.plan)),.i r.up,.i r.low,.i r.steps,.t (.sl (logT r.log))]
theorem idxP_le (v:List Int):∀(i:Nat) (L:List (Node×Diag)),-1≤idxP v i L∧idxP v i L≤i+L.length
 |i,[]=>by simp only [idxP,List.length_nil];omega
 |i,d :: L=>by
  rw [idxP,List.length_cons]
  split
  ·omega
  ·have:=idxP_le v (i+1) L
   omega
theorem to_pure (x:Inst) (r:SRes) (n:Node) (hl:x.stops.length<2^31) (ho:n.s.ok) (hL:r.log.length<2^31) (hd:∀d∈r.log,d.1.path.length<2^62) (hn:n.path.length<2^62):Pure P 168 [.agg (mkC x r),n.a] (.i (x.toN r n)):=by
 generalize hR:x.toN r n=R
 refine pure_of Tryz.func168 rfl rfl (by simp [Tryz.f168]) (by simp [bnd,bnd.bndL,mkC,Node.a,Node.cs]) (by simp [bnd,bnd.bndL]) fun B hB hnx=>?_
 simp only [Tryz.f168] at hB ⊢
 rw [Inst.toN] at hR
 have hdead:=dead_pure x n.s n.cost r.low hl ho
 have hid:=idxP_le n.path 0 r.log
 have hix:=fun (σ:Nat→AObj) (h:σ 1= .box n.cs)=>didx_spec n r.log hL hd hn (nx:=2) (by omega) h
 rw [Node.cs] at hix
 refine K_run hB 100 ?_
 simp [go_sem,mkC,Node.a,Node.cs]
 refine K_call rfl rfl rfl (args:=[x.a,n.s.a,.i n.cost,.i r.low]) (f:=156) (by simp [go_sem,Inst.a,State.a,State.cs]) (by simp [go_sem,hB]) ((hdead).spec _ _) ?_
 cases c:x.deadB n.s n.cost r.low with
 |true=>
  rw [c,if_pos rfl] at hR
  subst hR
  refine K_run hB 100 ?_
  simp [go_sem]
 |false=>
  rw [c,if_neg (by decide)] at hR
  generalize idxP n.path 0 r.log=i at *
  have w:IntKind.i64.wrap (i+1)=i+1:=w64 _ (by omega)
  refine K_run hB 100 ?_
  simp [go_sem]
  refine K_call rfl rfl rfl (args:=[.t (.sl (logT r.log)),.fn (.func 212) [] [.ptr 1 0]]) (f:=211) (by simp [go_sem]) (by simp [go_sem,hB]) (hix _ (by simp [oput])) ?_
  rw [hR] at w
  refine K_run hB 100 ?_
  simp [go_sem,w,hR]
theorem noto_pure (n:Node):Pure P 167 [n.a] (.i 0):=by
 refine pure_of Tryz.func167 rfl rfl (by simp [Tryz.f167]) (by simp [bnd,bnd.bndL,Node.a,Node.cs]) (by simp [bnd,bnd.bndL]) fun B hB hnx=>?_
 simp only [Tryz.f167] at hB ⊢
 refine K_run hB 100 ?_
 simp [go_sem,Node.a,Node.cs]
def spotOf (f:Node→Int) (n:Node):List T:=(⟨n.s,n.cost,f n⟩:Spot).t
theorem spots_one (f:Node→Int) (l:List Node):∀y∈l.map (spotOf f),y.length=10:=by
 intro y hy
 obtain ⟨_,_,rfl⟩:=List.mem_map.1 hy
 rfl
theorem spots_pure (l:List Node) (f:Node→Int) (fid:FuncId) (pre:List AV) (hl:l.length<2^31) (hpre:bnd.bndL 0 pre=true) (hf:∀n∈l,R.Pure P fid (pre++[n.a]) (.i (f n))):Pure P 169 [.t (.sl (nodesT l)),.fn (.func fid) pre []] (.t (.sl (l.map (spotOf f)))):=by
 generalize hR:l.map (spotOf f)=R
 refine pure_of Tryz.func169 rfl rfl (by simp [Tryz.f169]) (by simp [bnd,bnd.bndL,hpre]) (by simp [bnd,bnd.bndL]) fun B hB hnx=>?_
 simp only [Tryz.f169] at hB ⊢
 have hil:(nodesT l).length=l.length:=List.length_map _
 refine K_run hB 100 ?_
 simp [go_sem,hil]
 refine K_own 5 10 (by simp [go_sem]) ?_
 refine K_loopP (α:=Nat×Nat×(Nat→AObj)×Nat) (fun (k,a,τ,m)=>k≤l.length∧τ a= .arr 10 ((l.take k).map (spotOf f))∧a<m) (fun (k,a,τ,m)=>⟨sl [(1,.fn (.func fid) pre []),(5,.ref a),(8,.t (.sl (nodesT l))),(9,.i l.length),(10,.i k)],τ,m⟩) (fun a=>l.length-a.1) (0,0,_,1) ⟨Nat.zero_le _,?_,by decide⟩ (Imp.slots (by simp [go_sem]) rfl rfl) ?_
 ·simp [oput]
 rintro ⟨k,a,τ,m⟩ ⟨g1,g2,g3⟩
 by_cases hk:k<l.length
 ·have hkk:IntKind.i64.wrap ((k:Int)+1)=((k+1:Nat):Int):=by rw [w64 ((k:Int)+1) (by omega)];rfl
  have hget:∀h,(nodesT l)[k]'h=l[k].t:=fun h=>nodesT_get l hk
  have hp:=hf l[k] (List.getElem_mem _)
  have tk:(l.take (k+1)).map (spotOf f)=(l.take k).map (spotOf f)++[spotOf f l[k]]:=by rw [List.take_succ_eq_append_getElem hk,List.map_append];rfl
  have tk2:(l.map (spotOf f)).take (k+1)=(l.take k).map (spotOf f)++[spotOf f l[k]]:=by rw [←List.map_take];exact tk
  have h10:=spots_one f (l.take k)
  have hln:((l.take k).map (spotOf f)).length=k:=by rw [List.length_map,List.length_take];omega
  have hcap:k+1≤mostLen:=by show _≤4294967296;omega
  generalize l[k]=n at *
  generalize (l.take k).map (spotOf f)=rows at *
  have ne1:¬a=m:=by omega
  refine K_run hB 60 ?_
  simp [go_sem,hil,hk,hget,Node.t]
  refine K_drawnT [10] rfl (by rw [hB];kernel_rfl) (by kernel_rfl) fun ht=>?_
  refine K_run hB 100 ?_
  simp [go_sem,ht,Node.cs]
  refine K_dCallP rfl rfl rfl (args:=pre++[n.a]) (f:=fid) (by simp [go_sem,Node.a,Node.cs]) hp ?_
  refine K_run hB 100 ?_
  simp [go_sem,ht,ne1,g2,h10,hln,hcap,hkk]
  refine Next.mk (k+1,m+1,_,m+2) ⟨by omega,?_,by simp only;omega⟩ (Imp.slots (by simp [go_sem]) rfl rfl) (by simp only;omega)
  simp only
  first | rw [tk] | rw [tk2]
  simp [oput,spotOf,Spot.t]
 ·have:k=l.length:=by omega
  subst this
  rw [List.take_length,hR] at g2
  refine K_run hB 100 ?_
  simp [go_sem,hil,g2]
end Go.Proofs.YtnoifgjiipgpoaaGreatDoor

set_option maxRecDepth 4000
set_option maxHeartbeats 1000000
namespace Go.Proofs.YtnoifgjiipgpoaaGreatDoor
open Go Go.Proofs.YtnoifgjiipgpoaaGreatDoor.R
def cutB (r:SRes) (d:Diag):Bool:=!d.exact&&decide (d.low<r.low)
def laysP (r:SRes) (d:Diag):List (List Node):=if cutB r d=true then d.layers.take d.sure else d.layers
def lastP (r:SRes) (d:Diag):Int:=if cutB r d=true then (d.sure:Int)-1 else -1
def layF (x:Inst) (r:SRes) (last:Int) (k:Nat):Node→Int:=if (k:Int)=last then x.toN r else fun _=>0
def layG (x:Inst) (r:SRes) (last:Int) (k:Nat) (l:List Node):List T:=[.sl (l.map (spotOf (layF x r last k)))]
def rowsP (x:Inst) (r:SRes) (last:Int) (ls:List (List Node)) (k:Nat):List (List T):=(List.range k).map fun j=>layG x r last j (ls.getD j [])
theorem lays_len (r:SRes) (d:Diag):(laysP r d).length≤d.layers.length:=by
 unfold laysP
 split
 ·rw [List.length_take];omega
 ·exact Nat.le_refl _
theorem rowsP_one (x:Inst) (r:SRes) (last:Int) (ls:List (List Node)) (k:Nat):∀y∈rowsP x r last ls k,y.length=1:=by
 intro y hy
 obtain ⟨_,_,rfl⟩:=List.mem_map.1 hy
 rfl
theorem rowsP_len (x:Inst) (r:SRes) (last:Int) (ls:List (List Node)) (k:Nat):(rowsP x r last ls k).length=k:=by rw [rowsP,List.length_map,List.length_range]
theorem rowsP_succ (x:Inst) (r:SRes) (last:Int) (ls:List (List Node)) {k:Nat} (h:k<ls.length):rowsP x r last ls (k+1)=rowsP x r last ls k++[layG x r last k ls[k]]:=by
 rw [rowsP,List.range_succ,List.map_append,List.map_singleton,List.getD_eq_getElem?_getD,List.getElem?_eq_getElem h]
 rfl
theorem part_pure (x:Inst) (r:SRes) (d:Diag) (hl:x.stops.length<2^31) (hL:r.log.length<2^31) (hd:∀d∈r.log,d.1.path.length<2^62) (hds:d.sure≤d.layers.length) (hdl:d.layers.length<2^31) (hok:∀l∈d.layers,l.length<2^31∧∀n∈l,n.s.ok∧n.path.length<2^62):Pure P 114 [.agg (mkC x r),d.a] (.agg [.t (.sl (rowsP x r (lastP r d) (laysP r d) (laysP r d).length))]):=by
 generalize hR:rowsP x r (lastP r d) (laysP r d) (laysP r d).length=R
 refine pure_of Tryz.func114 rfl rfl (by simp [Tryz.f114]) (by simp [bnd,bnd.bndL,mkC,Diag.a,Diag.cs]) (by simp [bnd,bnd.bndL]) fun B hB hnx=>?_
 simp only [Tryz.f114] at hB ⊢
 have hlen:(lysT d.layers).length=d.layers.length:=List.length_map _
 have hsub:∀l∈laysP r d,l∈d.layers:=fun l h=>by
  unfold laysP at h
  split at h
  ·exact List.mem_of_mem_take h
  ·exact h
 obtain ⟨ls,hls⟩:∃ls,ls=laysP r d:=⟨_,rfl⟩
 obtain ⟨last,hlast⟩:∃v,v=lastP r d:=⟨_,rfl⟩
 rw [←hls,←hlast] at hR
 rw [←hls] at hsub
 by_cases c1:d.exact=true
 case' pos=>
  have e1:ls=d.layers:=by rw [hls,laysP,cutB,if_neg (by simp [c1])]
  have e2:last= -1:=by rw [hlast,lastP,cutB,if_neg (by simp [c1])]
  rw [←e1] at hlen
  refine K_run hB 34 ?_
  simp [go_sem,mkC,Diag.a,Diag.cs,c1,←e1]
 case' neg=>
  have c1':d.exact=false:=by simpa using c1
  by_cases c2:d.low<r.low
  case' pos=>
   have e1:ls=d.layers.take d.sure:=by rw [hls,laysP,cutB,if_pos (by simp [c1',c2])]
   have e2:last=(d.sure:Int)-1:=by rw [hlast,lastP,cutB,if_pos (by simp [c1',c2])]
   have htk:(lysT d.layers).take d.sure=lysT ls:=by rw [e1];simp [lysT]
   have w1:IntKind.i64.wrap ((d.sure:Int)-1)=last:=by rw [e2];exact w64 _ (by omega)
   have hmx:max (d.sure:Int) 0=d.sure:=by omega
   have hmn:min (d.sure:Int) (d.layers.length:Int)=d.sure:=by omega
   refine K_run hB 100 ?_
   simp [go_sem,mkC,Diag.a,Diag.cs,c1',c2]
   refine K_drawn [] rfl (by rw [hB];kernel_rfl) ?_
   have h1o:∀y∈lysT d.layers,y.length=1:=by
    intro y hy
    obtain ⟨_,_,rfl⟩:=List.mem_map.1 hy
    rfl
   refine K_run hB 16 ?_
   simp [go_sem,hlen,hmx,hmn,w1,htk,hds,if_pos h1o]
  case' neg=>
   have e1:ls=d.layers:=by rw [hls,laysP,cutB,if_neg (by simp [c2])]
   have e2:last= -1:=by rw [hlast,lastP,cutB,if_neg (by simp [c2])]
   refine K_run hB 40 ?_
   simp [go_sem,mkC,Diag.a,Diag.cs,c1',c2,←e1]
 all_goals
  refine K_impC (t:=⟨sl [(2,.ptr 0 0),(4,.ptr 2 0),(5,.fn (.func 167) [] []),(6,.t (.sl (lysT ls))),(7,.i last)],ob [(0,.box (mkC x r)),(2,.box [.fsl []])],3⟩) (Imp.of (by simp [go_sem,e2]) (fun i=>?_) rfl) ?_
  ·match i with
   |0=>exact .inr (by simp [oput,ob,mkC])
   |1=>exact .inl (by simp [ob,noObj])
   |2=>exact .inr (by simp [oput,ob])
   |i+3=>exact .inl (by simp [ob,noObj])
  clear e1 e2
 all_goals
  refine K_run hB 100 ?_
  simp [go_sem]
  refine K_less (Imp.ownB (b:=3) (off:=0) (sz:=1) (cs:=[.fsl []]) (by simp [oput]) rfl) ?_
  refine K_loopP (α:=Nat×Nat×(Nat→AObj)×Nat) (fun (k,a,τ,m)=>k≤ls.length∧τ 0= .box (mkC x r)∧τ 2= .box [.fsl []]∧τ 3= .box [.ref a]∧τ a= .arr 1 (rowsP x r last ls k)∧a<m∧4≤a) (fun (k,a,τ,m)=>⟨sl [(2,.ptr 0 0),(4,.ptr 2 0),(5,.fn (.func 167) [] []),(7,.i last),(8,.ptr 3 0),(38,.t (.sl (lysT ls))),(39,.i ls.length),(40,.i k)],τ,m⟩) (fun a=>ls.length-a.1) (0,4,_,5) ⟨Nat.zero_le _,by simp [oput,ob],by simp [oput,ob],by simp [oput,ob],by simp [oput,ob,rowsP],by decide,by decide⟩ (Imp.slots (by simp [go_sem,lysT]) rfl rfl) ?_
  rintro ⟨k,a,τ,m⟩ ⟨g1,g2,g3,g4,g5,g6,g7⟩
  have hll:(lysT ls).length=ls.length:=List.length_map _
  have hls31:ls.length<2^31:=by
   rw [hls]
   have:=lays_len r d
   omega
  have n0:¬0=m:=by omega
  have n2:¬2=m:=by omega
  have n3:¬3=m:=by omega
  have n4:¬a=3:=by omega
  have n5:¬3=a:=by omega
  have n6:¬m=3:=by omega
  have n7:¬0=a:=by omega
  have n8:¬2=a:=by omega
  have n9:¬2=3:=by decide
  have na:¬a=2:=by omega
  by_cases hk:k<ls.length
  ·have hkk:IntKind.i64.wrap ((k:Int)+1)=((k+1:Nat):Int):=by rw [w64 ((k:Int)+1) (by omega)];rfl
   have hget:∀h,(lysT ls)[k]'h=[.sl (nodesT ls[k])]:=fun h=>by simp [lysT]
   have hrs:=rowsP_succ x r last ls hk
   obtain ⟨hln,hlo⟩:=hok ls[k] (hsub _ (List.getElem_mem _))
   have h1:=rowsP_one x r last ls k
   have hrl:=rowsP_len x r last ls k
   have hcap:k+1≤mostLen:=by show _≤4294967296;omega
   rw [layG] at hrs
   generalize ls[k]=l at *
   generalize rowsP x r last ls k=rows at *
   by_cases ck:(k:Int)=last
   ·have hF:layF x r last k=x.toN r:=if_pos ck
    rw [hF] at hrs
    have hsp:=spots_pure l (x.toN r) 168 [.agg (mkC x r)] hln (by simp [bnd,bnd.bndL,mkC]) fun n hn=>to_pure x r n hl (hlo n hn).1 hL hd (hlo n hn).2
    subst ck
    refine K_run hB 60 ?_
    simp [go_sem,hk,hll,hget,g2,mkC]
    refine K_drawnT [6,8] rfl (by rw [hB];kernel_rfl) (by kernel_rfl) fun ht=>?_
    refine K_run hB 100 ?_
    simp [go_sem,ht,g4]
    refine K_dCallP rfl rfl rfl (args:=[.t (.sl (nodesT l)),.fn (.func 168) [.agg (mkC x r)] []]) (f:=169) (by simp [go_sem,mkC]) hsp ?_
    refine K_run hB 100 ?_
    simp [go_sem,ht,g4,g5,hrl,h1,hcap,n0,n2,n3,n4,n5,n6,hkk]
    refine Next.mk (k+1,m,_,m+1) ⟨by omega,?_,?_,?_,?_,by simp only;omega,by simp only;omega⟩ (Imp.slots (by simp [go_sem]) rfl rfl) (by simp only;omega)
    all_goals simp [oput,n0,n2,n3,n4,n5,n6,n7,n8,g2,g3,g4,g5,hrs,setCells,mkC]
   ·have hF:layF x r last k=fun _=>0:=if_neg ck
    rw [hF] at hrs
    have hsp:=spots_pure l (fun _=>0) 167 [] hln rfl fun n hn=>noto_pure n
    refine K_run hB 60 ?_
    simp [go_sem,hk,hll,hget,ck]
    refine K_drawnT [6,8] rfl (by rw [hB];kernel_rfl) (by kernel_rfl) fun ht=>?_
    refine K_run hB 100 ?_
    simp [go_sem,ht,g4]
    refine K_dCallP rfl rfl rfl (args:=[.t (.sl (nodesT l)),.fn (.func 167) [] []]) (f:=169) (by simp [go_sem]) hsp ?_
    refine K_run hB 100 ?_
    simp [go_sem,ht,g4,g5,hrl,h1,hcap,n0,n2,n3,n4,n5,n6,hkk]
    refine Next.mk (k+1,m,_,m+1) ⟨by omega,?_,?_,?_,?_,by simp only;omega,by simp only;omega⟩ (Imp.slots (by simp [go_sem]) rfl rfl) (by simp only;omega)
    all_goals simp [oput,n0,n2,n3,n4,n5,n6,n7,n8,g2,g3,g4,g5,hrs,setCells]
  ·have:k=ls.length:=by omega
   subst this
   rw [hR] at g5
   refine K_run hB 100 ?_
   simp [go_sem,hll,g4,g3,g5,n5,n8,n9,na]
def spotN (f:Node→Int) (n:Node):Spot:=⟨n.s,n.cost,f n⟩
def Inst.partM (x:Inst) (r:SRes) (d:Diag):List (List Spot):=(List.range (laysP r d).length).map fun j=>((laysP r d).getD j []).map (spotN (layF x r (lastP r d) j))
def Inst.proofOf (x:Inst) (r:SRes):Prf:=⟨r.low,if r.log.length=0 then [[[⟨x.rootS,0,0⟩]]] else r.log.map fun d=>x.partM r d.2⟩
theorem partM_rows (x:Inst) (r:SRes) (d:Diag):(x.partM r d).map layT=rowsP x r (lastP r d) (laysP r d) (laysP r d).length:=by
 rw [Inst.partM,List.map_map,rowsP]
 refine List.map_congr_left fun j _=>?_
 simp only [Function.comp,layT,layG,List.map_map]
 rfl
end Go.Proofs.YtnoifgjiipgpoaaGreatDoor

set_option maxRecDepth 4000
namespace Go.Proofs.YtnoifgjiipgpoaaGreatDoor
open Go Go.Proofs.YtnoifgjiipgpoaaGreatDoor.R
theorem partM_get {x:Inst} {r:SRes} {d:Diag} (i:Nat):(x.partM r d)[i]? =((laysP r d)[i]?).map fun l=>l.map (spotN (layF x r (lastP r d) i)):=by
 rw [Inst.partM,List.getElem?_map]
 by_cases h:i<(laysP r d).length
 ·rw [List.getElem?_range h,List.getElem?_eq_getElem h,Option.map_some,Option.map_some,List.getD_eq_getElem?_getD,List.getElem?_eq_getElem h]
  rfl
 ·rw [List.getElem?_eq_none (by rw [List.length_range];omega),List.getElem?_eq_none (by omega)]
  rfl
theorem lays_mem {r:SRes} {d:Diag} {l:List Node} (h:l∈laysP r d):l∈d.layers:=by
 unfold laysP at h
 split at h
 ·exact List.mem_of_mem_take h
 ·exact h
theorem partM_len {x:Inst} {r:SRes} {d:Diag}:(x.partM r d).length=(laysP r d).length:=by rw [Inst.partM,List.length_map,List.length_range]
end Go.Proofs.YtnoifgjiipgpoaaGreatDoor

set_option maxRecDepth 4000
set_option maxHeartbeats 1000000
namespace Go.Proofs.YtnoifgjiipgpoaaGreatDoor
open Go Go.Proofs.YtnoifgjiipgpoaaGreatDoor.R
structure SRes.Fine (r:SRes):Prop where
 log:r.log.length<2^31
 path:∀d∈r.log,d.1.path.length<2^62
 each:∀d∈r.log,d.2.sure≤d.2.layers.length∧d.2.layers.length<2^31∧∀l∈d.2.layers,l.length<2^31∧∀n∈l,n.s.ok∧n.path.length<2^62
def Inst.partsK (x:Inst) (r:SRes) (k:Nat):List (List T):=(r.log.take k).map fun d=>partT (x.partM r d.2)
theorem partsK_one (x:Inst) (r:SRes) (k:Nat):∀y∈x.partsK r k,y.length=1:=by
 intro y hy
 obtain ⟨_,_,rfl⟩:=List.mem_map.1 hy
 rfl
theorem partsK_len (x:Inst) (r:SRes) {k:Nat} (h:k≤r.log.length):(x.partsK r k).length=k:=by
 rw [Inst.partsK,List.length_map,List.length_take]
 omega
theorem partsK_succ (x:Inst) (r:SRes) {k:Nat} (h:k<r.log.length):x.partsK r (k+1)=x.partsK r k++[partT (x.partM r r.log[k].2)]:=by
 rw [Inst.partsK,List.take_succ_eq_append_getElem h,List.map_append]
 rfl
theorem proofOf_a (x:Inst) (r:SRes):(x.proofOf r).a= .agg [.i r.low,.t (.sl (if r.log.length=0 then [[.sl [[.sl [(⟨x.rootS,0,0⟩:Spot).t]]]]] else x.partsK r r.log.length))]:=by
 rw [Prf.a,Prf.cs,Inst.proofOf]
 split
 ·rfl
 ·rw [Inst.partsK,List.take_length,List.map_map]
  rfl
theorem make2_pure (x:Inst) (r:SRes) (hl:x.stops.length<2^31) (hr:r.Fine):Pure P 66 [x.a,r.a] ((x.proofOf r).a):=by
 rw [proofOf_a]
 generalize hR:(if r.log.length=0 then [[.sl [[.sl [(⟨x.rootS,0,0⟩:Spot).t]]]]] else x.partsK r r.log.length:List (List T))=R
 refine pure_of Tryz.func66 rfl rfl (by simp [Tryz.f66]) (by simp [bnd,bnd.bndL,Inst.a,SRes.a]) (by simp [bnd,bnd.bndL]) fun B hB hnx=>?_
 simp only [Tryz.f66] at hB ⊢
 have hro:=root_pureS x (by omega)
 have hL:=hr.log
 have hll:(logT r.log).length=r.log.length:=List.length_map _
 refine K_run hB 100 ?_
 simp [go_sem,Inst.a,SRes.a]
 refine K_less (Imp.ownB (b:=4) (off:=1) (sz:=1) (cs:=[.i r.low,.fsl []]) (by simp [oput,setCells]) rfl) ?_
 refine K_loopP (α:=Nat×Nat×(Nat→AObj)×Nat) (fun (k,a,τ,m)=>k≤r.log.length∧τ 0= .box [.i x.pairs,.i x.cars,.i x.room,.t (.sl (x.stops.map Stop.t))]∧τ 2= .box [.i 0,.fsl []]∧τ 3= .box (mkC x r)∧τ 4= .box [.i r.low,.ref a]∧τ a= .arr 1 (x.partsK r k)∧a<m∧5≤a) (fun (k,a,τ,m)=>⟨sl [(2,.ptr 0 0),(4,.ptr 2 0),(5,.ptr 3 0),(6,.ptr 4 0),(16,.t (.sl (logT r.log))),(17,.i r.log.length),(18,.i k)],τ,m⟩) (fun a=>r.log.length-a.1) (0,5,_,6) ⟨Nat.zero_le _,by simp [oput],by simp [oput],by simp [oput,setCells,mkC],by simp [oput,setCells],by simp [oput,Inst.partsK],by decide,by decide⟩ (Imp.slots (by simp [go_sem,hll]) rfl rfl) ?_
 rintro ⟨k,a,τ,m⟩ ⟨g1,h0,g2,g3,g4,g5,g6,g7⟩
 have n0:¬0=m:=by omega
 have n2:¬2=m:=by omega
 have n3:¬3=m:=by omega
 have n4:¬4=m:=by omega
 have n5:¬a=4:=by omega
 have n6:¬4=a:=by omega
 have n7:¬0=a:=by omega
 have n8:¬2=a:=by omega
 have n9:¬3=a:=by omega
 have na:¬a=m:=by omega
 have nh:¬a=2:=by omega
 have nb:¬m=a:=by omega
 have nc:¬0=m+1:=by omega
 have nd:¬2=m+1:=by omega
 have ne:¬3=m+1:=by omega
 have nf:¬4=m+1:=by omega
 have ng:¬m+1=4:=by omega
 by_cases hk:k<r.log.length
 ·have hkk:IntKind.i64.wrap ((k:Int)+1)=((k+1:Nat):Int):=by rw [w64 ((k:Int)+1) (by omega)];rfl
  have hget:∀h,(logT r.log)[k]'h=Done.t r.log[k]:=fun h=>by simp [logT]
  have hrs:=partsK_succ x r hk
  have hmem:r.log[k]∈r.log:=List.getElem_mem _
  obtain ⟨e1,e2,e3⟩:=hr.each _ hmem
  have hpt:=part_pure x r r.log[k].2 hl hL hr.path e1 e2 e3
  rw [←partM_rows] at hpt
  have hone:=partsK_one x r k
  have hlen:=partsK_len x r g1
  have hcap:k+1≤mostLen:=by show _≤4294967296;omega
  rw [partT] at hrs
  generalize (x.partM r r.log[k].2).map layT=pt at *
  generalize r.log[k]=d at *
  generalize x.partsK r k=rows at *
  refine K_run hB 60 ?_
  simp [go_sem,hk,hll,hget,Done.t,Node.t]
  refine K_drawnT [7,9] rfl (by rw [hB];kernel_rfl) (by kernel_rfl) fun ht=>?_
  refine K_run hB 100 ?_
  simp [go_sem,ht,g3,n3,n4,g4,mkC]
  refine K_dCallP rfl rfl rfl (args:=[.agg (mkC x r),d.2.a]) (f:=114) (by simp [go_sem,mkC,Diag.a,Diag.cs]) hpt ?_
  refine K_run hB 100 ?_
  simp [go_sem,ht,g4,g5,hlen,hone,hcap,n0,n2,n3,n4,n5,n6,na,nb,nf,ng,hkk]
  refine Next.mk (k+1,m+1,_,m+2) ⟨by omega,?_,?_,?_,?_,?_,by simp only;omega,by simp only;omega⟩ (Imp.slots (by simp [go_sem]) rfl rfl) (by simp only;omega)
  all_goals simp [oput,n0,n2,n3,n4,n5,n6,n7,n8,n9,na,nb,nc,nd,ne,nf,ng,h0,g2,g3,g4,g5,hrs,setCells,mkC]
 ·have:k=r.log.length:=by omega
  subst this
  have hlen:=partsK_len x r (Nat.le_refl _)
  by_cases c:r.log.length=0
  ·rw [if_pos c] at hR
   rw [c] at hlen
   subst hR
   generalize x.rootS=s at *
   refine K_run hB 60 ?_
   simp [go_sem,c,hll,g4,g5,hlen,h0]
   refine K_call rfl rfl rfl (args:=[x.a]) (f:=47) (by simp [go_sem,Inst.a]) (by simp [go_sem,hB]) ((hro).spec _ _) ?_
   refine K_run hB 100 ?_
   simp [go_sem,State.a,State.cs,g4,g2,g5,hlen,n5,n6,n8,nh]
   rfl
  ·rw [if_neg c] at hR
   rw [hR] at g5 hlen
   refine K_run hB 100 ?_
   simp [go_sem,hll,g4,g5,hlen,c,g2,n5,n6,n8,nh]
end Go.Proofs.YtnoifgjiipgpoaaGreatDoor

set_option maxRecDepth 4000
set_option maxHeartbeats 1000000
namespace Go.Proofs.YtnoifgjiipgpoaaGreatDoor
open Go Go.Proofs.YtnoifgjiipgpoaaGreatDoor.R
theorem build_fine2 {x:Inst} {n:Node} (ht:Track x n) {w u:Int} (hl:x.stops.length≤7) (hw:w≤40):(x.build n w u).sure≤(x.build n w u).layers.length∧(x.build n w u).layers.length≤41∧∀l∈(x.build n w u).layers,l.length≤40∧∀n∈l,n.s.ok∧n.path.length≤81:=by
 have h1:=build_count x n w u
 have h2:=ht.few
 have h3:x.deep≤40:=by
  by_cases hm:x.may=true
  ·have:=(deep_meas hm).2;omega
  ·rw [Inst.deep,if_neg hm];omega
 refine ⟨(build_ok x n w u).le,by omega,fun l hl2=>?_⟩
 obtain ⟨h4,h5⟩:=build_fine ht.is.ok w u l hl2
 refine ⟨?_,fun m hm=>⟨h4.ok m hm,by have:=h4.path m hm;omega⟩⟩
 rcases h5 with h5 | h5
 ·rw [h5];simp
 ·unfold Inst.mostN at h5
  omega
theorem done_fine {x:Inst} {w:Int} {r:SRes} (hD:DoneX x w r) (hl:x.stops.length≤7) (hw:w≤40):r.Fine:=by
 have hfew:=hD.few
 refine ⟨by omega,fun d hd=>?_,fun d hd=>?_⟩
 ·obtain ⟨k,hk,e⟩:=List.getElem_of_mem hd
  have:=(hD.all k d.1 d.2 (by rw [List.getElem?_eq_getElem hk,e])).1.few
  omega
 ·obtain ⟨k,hk,e⟩:=List.getElem_of_mem hd
  obtain ⟨ht,u,hd2,_⟩:=hD.all k d.1 d.2 (by rw [List.getElem?_eq_getElem hk,e])
  obtain ⟨h1,h2,h3⟩:=build_fine2 ht (w:=w) (u:=u) hl hw
  rw [←hd2] at h1 h2 h3
  exact ⟨h1,by omega,fun l hl2=>⟨by have:=(h3 l hl2).1;omega,fun n hn=>⟨((h3 l hl2).2 n hn).1,by have:=((h3 l hl2).2 n hn).2;omega⟩⟩⟩
theorem search_fine3 {x:Inst} {o:Opt} (hl:x.stops.length≤7) (hw:o.width≤40):(x.search o).Fine:=by
 by_cases hm:x.may=true
 ·by_cases ho:o.mayB=true
  ·exact done_fine (search_done hl hm ho hw) hl hw
  ·rw [Inst.search,if_pos hm,if_neg ho]
   exact ⟨by decide,fun d h=>(by cases h),fun d h=>(by cases h)⟩
 ·rw [Inst.search,if_neg hm]
  exact ⟨by decide,fun d h=>(by cases h),fun d h=>(by cases h)⟩
structure Prf.Lesser (p:Prf):Prop where
 parts:p.parts.length≤1848
 lays:∀q∈p.parts,q.length≤41∧∀l∈q,l.length≤40∧∀n∈l,n.s.ok
theorem done_lesser {x:Inst} {w:Int} {r:SRes} (hD:DoneX x w r) (hl:x.stops.length≤7) (hw:w≤40):(x.proofOf r).Lesser:=by
 have hfew:=hD.few
 rw [Inst.proofOf]
 split
 ·refine ⟨by simp,fun q hq=>?_⟩
  simp only [List.mem_singleton] at hq
  subst hq
  refine ⟨by simp,fun l hl2=>?_⟩
  simp only [List.mem_singleton] at hl2
  subst hl2
  refine ⟨by simp,fun n hn=>?_⟩
  simp only [List.mem_singleton] at hn
  subst hn
  exact rootS_ok x
 ·refine ⟨by simp only [List.length_map];exact hfew,fun q hq=>?_⟩
  obtain ⟨d,hd,rfl⟩:=List.mem_map.1 hq
  obtain ⟨k,hk,e⟩:=List.getElem_of_mem hd
  obtain ⟨ht,u,hd2,_⟩:=hD.all k d.1 d.2 (by rw [List.getElem?_eq_getElem hk,e])
  obtain ⟨h1,h2,h3⟩:=build_fine2 ht (w:=w) (u:=u) hl hw
  rw [←hd2] at h1 h2 h3
  have h4:=lays_len r d.2
  refine ⟨by rw [partM_len];omega,fun l hl2=>?_⟩
  obtain ⟨i,hi,e2⟩:=List.getElem_of_mem hl2
  have hg:=partM_get (x:=x) (r:=r) (d:=d.2) i
  rw [List.getElem?_eq_getElem hi,e2] at hg
  cases hla:(laysP r d.2)[i]? with
  |none=>rw [hla] at hg;cases hg
  |some lay=>
   rw [hla] at hg
   have hg:=Option.some.inj hg
   subst hg
   obtain ⟨g1,g2⟩:=h3 lay (lays_mem (List.mem_of_getElem? hla))
   refine ⟨by rw [List.length_map];exact g1,fun n hn=>?_⟩
   obtain ⟨m,hm,rfl⟩:=List.mem_map.1 hn
   exact (g2 m hm).1
end Go.Proofs.YtnoifgjiipgpoaaGreatDoor

set_option maxRecDepth 4000
namespace Go.Proofs.YtnoifgjiipgpoaaGreatDoor
open Go Go.Proofs.YtnoifgjiipgpoaaGreatDoor.R
def Spot.c (s:Spot):CSpot:=⟨s.s.spot,s.s.car,s.s.time,s.s.load,s.s.first,s.s.must,s.s.can,s.s.on,s.cost,s.part⟩
def Prf.c (p:Prf):CPrf:=⟨p.least,p.parts.map fun q=>q.map fun l=>l.map Spot.c⟩
theorem c_pf (p:Prf):p.c.pf=p:=by
 have h1:∀l:List Spot,(l.map Spot.c).map CSpot.sp=l:=fun l=>by
  rw [List.map_map]
  exact List.map_id l
 have h2:∀q:List (List Spot),(q.map fun l=>l.map Spot.c).map (fun l=>l.map CSpot.sp)=q:=fun q=>by
  rw [List.map_map]
  exact (List.map_congr_left fun l _=>h1 l).trans (List.map_id q)
 have h3:(p.parts.map fun q=>q.map fun l=>l.map Spot.c).map (fun q=>q.map fun l=>l.map CSpot.sp)=p.parts:=by
  rw [List.map_map]
  exact (List.map_congr_left fun q _=>h2 q).trans (List.map_id _)
 rw [CPrf.pf,Prf.c]
 simp only
 rw [h3]
theorem c_a (p:Prf):p.c.a=p.a:=by rw [pf_a,c_pf]
theorem flatK_len {α:Type} {f:α→List Nat} {K:Nat}:∀(l:List α),(∀a∈l,(f a).length≤K)→(l.flatMap f).length≤K*l.length
 |[],_=>by simp
 |a :: l,h=>by
  have h1:=flatK_len l fun b hb=>h b (List.mem_cons_of_mem _ hb)
  have h2:=h a List.mem_cons_self
  rw [List.flatMap_cons,List.length_append,List.length_cons,Nat.mul_succ]
  omega
theorem lesser_c {p:Prf} (h:p.Lesser):p.c.ok∧p.c.enc.length+1000≤mostLen:=by
 have hp:=h.parts
 have hin:∀q∈p.c.parts,q.length≤41∧∀l∈q,l.length≤40∧∀s∈l,s.ok:=by
  intro q hq
  obtain ⟨q',hq',rfl⟩:=List.mem_map.1 hq
  obtain ⟨g1,g2⟩:=h.lays q' hq'
  refine ⟨by rw [List.length_map];exact g1,fun l hl=>?_⟩
  obtain ⟨l',hl',rfl⟩:=List.mem_map.1 hl
  obtain ⟨g3,g4⟩:=g2 l' hl'
  refine ⟨by rw [List.length_map];exact g3,fun s hs=>?_⟩
  obtain ⟨n,hn,rfl⟩:=List.mem_map.1 hs
  exact ⟨(g4 n hn).must,(g4 n hn).can,(g4 n hn).on⟩
 have hlen:p.c.parts.length≤1848:=by rw [Prf.c,List.length_map];exact hp
 refine ⟨⟨by omega,fun q hq=>by have:=(hin q hq).1;omega,fun q hq l hl=>by have:=((hin q hq).2 l hl).1;omega,fun q hq l hl s hs=>((hin q hq).2 l hl).2 s hs⟩,?_⟩
 have e1:∀s:CSpot,s.ok→s.enc.length≤100:=fun s hs=>by
  have a1:=encI_len [s.at_,s.car,s.time,s.load,s.first]
  have a2:=encI_len [s.cost,s.part]
  have a3:=enc_len64 hs.1
  have a4:=enc_len64 hs.2.1
  have a5:=enc_len64 hs.2.2
  simp only [CSpot.enc,List.length_append,List.length_cons,List.length_nil] at *
  omega
 have e2:∀l:Layer,l.length≤40→(∀s∈l,s.ok)→(layEnc l).length≤4010:=fun l hl hs=>by
  have a1:=encI_len [(l.length:Int)]
  have a2:=flatK_len (f:=CSpot.enc) (K:=100) l fun s h=>e1 s (hs s h)
  have a3:100*l.length≤100*40:=Nat.mul_le_mul_left _ hl
  simp only [layEnc,List.length_append,List.length_cons,List.length_nil] at *
  omega
 have e3:∀q∈p.c.parts,(partEnc q).length≤164420:=fun q hq=>by
  obtain ⟨g1,g2⟩:=hin q hq
  have a1:=encI_len [(q.length:Int)]
  have a2:=flatK_len (f:=layEnc) (K:=4010) q fun l hl=>e2 l (g2 l hl).1 (g2 l hl).2
  have a3:4010*q.length≤4010*41:=Nat.mul_le_mul_left _ g1
  simp only [partEnc,List.length_append,List.length_cons,List.length_nil] at *
  omega
 have a1:=encI_len [p.c.least]
 have a2:=encI_len [(p.c.parts.length:Int)]
 have a3:=flatK_len (f:=partEnc) (K:=164420) p.c.parts e3
 have a4:164420*p.c.parts.length≤164420*1848:=Nat.mul_le_mul_left _ hlen
 have a5:mostLen=4294967296:=rfl
 simp only [CPrf.enc,List.length_append,List.length_cons,List.length_nil] at *
 omega
def certR (p:Prf):List Nat:=if p.c.err=0 then p.c.enc else []
theorem enc_byte (n:Nat):∀c∈enc n,c<256:=by
 induction n using Nat.strongRecOn with
 |_ n ih=>
  rw [enc]
  split
  ·intro c hc
   rcases List.mem_cons.1 hc with rfl | hc
   ·omega
   ·exact ih (n / 128) (by omega) c hc
  ·intro c hc
   rw [List.mem_singleton.1 hc]
   omega
theorem encodeP_pure (p:Prf) (h:p.Lesser):Pure P 65 [p.a] (.tup [.t (.sl (byt (certR p))),.i p.c.err]):=by
 obtain ⟨h1,h2⟩:=lesser_c h
 have:=encode_pure p.c h1 h2
 rw [c_a] at this
 rw [certR]
 split
 ·rename_i e
  rw [if_pos e] at this
  rw [e]
  exact this
 ·rename_i e
  rw [if_neg e] at this
  exact this
end Go.Proofs.YtnoifgjiipgpoaaGreatDoor

set_option maxRecDepth 4000
set_option maxHeartbeats 1000000
namespace Go.Proofs.YtnoifgjiipgpoaaGreatDoor
open Go Go.Proofs.YtnoifgjiipgpoaaGreatDoor.R
structure Ans where
 status:Int
 text:List Nat
 low:Int
 up:Int
 cert:List Nat
 deriving DecidableEq
def Ans.cs (a:Ans):List AV:=[.i a.status,.t (.sl (byt a.text)),.i a.low,.i a.up,.t (.sl (byt a.cert))]
def Ans.a (a:Ans):AV:=.agg a.cs
def noPlan:List Nat:=[48,10]
def solC (i o:List Nat) (x:Inst) (p:Opt) (a:Ans):List AV:=[.t (.sl (byt i)),.t (.sl (byt o)),.i x.pairs,.i x.cars,.i x.room,.t (.sl (x.stops.map Stop.t)),.i p.width,.i p.order,.i p.budget,.i a.status,.t (.sl (byt a.text)),.i a.low,.i a.up,.t (.sl (byt a.cert))]
theorem read_spec (i o:List Nat) (x:Inst) (p:Opt) (a:Ans) (hi:i.length<2^63) (hi8:∀c∈i,c<256) {σ:Nat→AObj} {nx q:Nat} (hq:q<nx) (hσ:σ q= .box (solC i o x p a)):
  CallSpec P 30 [.ptr q 0] σ nx (.b (decide ((parseR i).2=0))) (oput σ q (.box (solC i o (parseR i).1 p {a with status:=0}))) nx:=by
 have hp:=parseB_pure i hi hi8
 generalize (parseR i).1=y at *
 generalize (parseR i).2=e at *
 refine CallQ.spec (spec_of Tryz.func30 rfl rfl (by simp [Tryz.f30]) fun B hB hnx hσB=>?_)
 simp only [Tryz.f30] at hB ⊢
 rw [solC] at hσ
 refine K_run hB 100 ?_
 simp [go_sem,hσ]
 refine K_call rfl rfl rfl (args:=[.t (.sl (byt i))]) (f:=16) (by simp [go_sem]) (by simp [go_sem,hB]) ((hp).spec _ _) ?_
 refine K_run hB 100 ?_
 simp [go_sem,hσ,Inst.a,setCells,oput_oput,solC]
theorem choose_spec (i o:List Nat) (x:Inst) (p:Opt) (a:Ans) (hi:o.length<2^63) (hi8:∀c∈o,c<256) {σ:Nat→AObj} {nx q:Nat} (hq:q<nx) (hσ:σ q= .box (solC i o x p a)):
  CallSpec P 31 [.ptr q 0] σ nx (.b (decide ((optsR o).2=0))) (oput σ q (.box (solC i o x (optsR o).1 {a with status:=1}))) nx:=by
 have hp:=oparse_pure o hi hi8
 generalize (optsR o).1=y at *
 generalize (optsR o).2=e at *
 refine CallQ.spec (spec_of Tryz.func31 rfl rfl (by simp [Tryz.f31]) fun B hB hnx hσB=>?_)
 simp only [Tryz.f31] at hB ⊢
 rw [solC] at hσ
 refine K_run hB 100 ?_
 simp [go_sem,hσ]
 refine K_call rfl rfl rfl (args:=[.t (.sl (byt o))]) (f:=17) (by simp [go_sem]) (by simp [go_sem,hB]) ((hp).spec _ _) ?_
 refine K_run hB 100 ?_
 simp [go_sem,hσ,Opt.a,Opt.cs,setCells,oput_oput,solC]
end Go.Proofs.YtnoifgjiipgpoaaGreatDoor

set_option maxRecDepth 4000
set_option maxHeartbeats 1000000
namespace Go.Proofs.YtnoifgjiipgpoaaGreatDoor
open Go Go.Proofs.YtnoifgjiipgpoaaGreatDoor.R
theorem search_lesser {x:Inst} {o:Opt} (hl:x.stops.length≤7) (hw:o.width≤40):(x.proofOf (x.search o)).Lesser:=by
 by_cases hm:x.may=true∧o.mayB=true
 ·exact done_lesser (search_done hl hm.1 hm.2 hw) hl hw
 ·have hlog:(x.search o).log=[]:=by
   rw [Inst.search]
   split
   ·split
    ·exact absurd ⟨‹_›,‹_›⟩ hm
    ·rfl
   ·rfl
  rw [Inst.proofOf,hlog]
  refine ⟨by simp,fun q hq=>?_⟩
  simp only [List.length_nil,if_true,List.mem_singleton] at hq
  subst hq
  refine ⟨by simp,fun l hl2=>?_⟩
  simp only [List.mem_singleton] at hl2
  subst hl2
  refine ⟨by simp,fun n hn=>?_⟩
  simp only [List.mem_singleton] at hn
  subst hn
  exact rootS_ok x
end Go.Proofs.YtnoifgjiipgpoaaGreatDoor

set_option maxRecDepth 4000
set_option maxHeartbeats 1000000
namespace Go.Proofs.YtnoifgjiipgpoaaGreatDoor
open Go Go.Proofs.YtnoifgjiipgpoaaGreatDoor.R
def Inst.ans (x:Inst) (r:SRes) (a:Ans):Ans:=⟨r.status,if r.up<inf then printB (sortR r.plan) else a.text,r.low,r.up,certR (x.proofOf r)⟩
theorem solverun_spec (i o:List Nat) (x:Inst) (p:Opt) (a:Ans) (hl:x.stops.length≤7) (hw:p.width≤40) (hD:(x.search p).up<inf→Digits (x.search p).plan∧(x.search p).plan.length<20) (hle:(x.proofOf (x.search p)).Lesser) {σ:Nat→AObj} {nx q:Nat} (hq:q<nx) (hσ:σ q= .box (solC i o x p a)):
  CallSpec P 32 [.ptr q 0] σ nx (.b true) (oput σ q (.box (solC i o x p (x.ans (x.search p) a)))) nx:=by
 have hs:=srun_pure x p hl hw
 have hfi:=search_fine3 (x:=x) (o:=p) hl hw
 have hmk:=make2_pure x (x.search p) (by omega) hfi
 have hen:=encodeP_pure _ hle
 have hinf:inf=1152921504606846976:=rfl
 generalize hA:x.ans (x.search p) a=A
 rw [Inst.ans] at hA
 generalize certR (x.proofOf (x.search p))=C at *
 generalize x.proofOf (x.search p)=pr at *
 generalize x.search p=r at *
 refine spec_down Tryz.func32 rfl rfl (by simp [Tryz.f32]) hq (by simp [bndO,bnd,solC]) (by simp [bnd]) fun hk B hB hnx hσB=>?_
 simp only [Tryz.f32] at hB ⊢
 rw [solC] at hσ
 have n1:¬q=nx:=by omega
 have n2:¬nx=q:=by omega
 refine K_run hB 100 ?_
 simp [go_sem]
 refine K_drawnF [9,10] [0,1,2,3,4,5,6,7,8] rfl (by rw [hB];kernel_rfl) (by kernel_rfl) fun ht hf'=>?_
 refine K_run hB 100 ?_
 simp [go_sem,ht,hf',hσ]
 refine K_dCallP rfl rfl rfl (args:=[x.a,p.a]) (f:=18) (by simp [go_sem,Inst.a,Opt.a,Opt.cs]) (hs) ?_
 refine K_run hB 100 ?_
 simp [go_sem,ht,hf',hσ,n1,SRes.a]
 refine K_drawnF [12,16,20] [1,2,5,6,7,8] rfl (by rw [hB];kernel_rfl) (by kernel_rfl) fun ht hf'=>?_
 by_cases c:r.up<1152921504606846976
 case' pos=>
  have hc:r.up<inf:=by rw [hinf];exact c
  have hpp:=pprint_pure _ (hD hc).1 (hD hc).2
  rw [if_pos hc] at hA
  refine K_run hB 100 ?_
  simp [go_sem,ht,hf',hσ,n1,n2,setCells,c,planT]
  refine K_call rfl rfl rfl (args:=[.agg [.t (.sl (r.plan.map rowT))]]) (f:=64) (by simp [go_sem]) (by simp [go_sem,hB]) ((hpp).spec _ _) ?_
  refine K_run hB 100 ?_
  simp [go_sem,hσ,n1,n2,setCells]
 case' neg=>
  rw [if_neg (by rw [hinf];exact c)] at hA
  refine K_run hB 100 ?_
  simp [go_sem,ht,hf',hσ,n1,n2,setCells,c]
 all_goals
  subst hA
  refine K_drawnF [14] [10] rfl (by rw [hB];kernel_rfl) (by kernel_rfl) fun ht hf'=>?_
  refine K_run hB 100 ?_
  simp [go_sem,ht,hf',hσ,n1,n2]
  refine K_dCallP rfl rfl rfl (args:=[x.a,r.a]) (f:=66) (by simp [go_sem,Inst.a,SRes.a,planT]) (hmk) ?_
  refine K_run hB 100 ?_
  simp [go_sem,ht,hf']
  refine K_dCallP rfl rfl rfl (args:=[pr.a]) (f:=65) (by simp [go_sem,Prf.a,Prf.cs]) (hen) ?_
  refine K_run hB 100 ?_
  simp [go_sem,ht,hf',hσ,n1,n2,setCells,solC]
  exact fun j h1 h2=>by simp [oput,h2,show ¬j=nx by omega]
theorem plan_digits {x:Inst} (hl:x.stops.length≤7) (hm:x.may=true) {rs:List (List Int)} {c:Int} (h:x.cost rs=(c,0)):Digits rs∧rs.length<20:=by
 obtain ⟨p,hx⟩:=x.fit hm
 obtain ⟨hok,_⟩:=cost_ok hx hm h
 have h1:=hok.cars
 have h2:=hx.cars
 have h3:=hx.len
 refine ⟨⟨by omega,fun r hr=>?_⟩,by omega⟩
 obtain ⟨t1,t2,_⟩:=times_ok hx hm (hok.each r hr).2
 exact ⟨by omega,fun n hn=>by have:=t1 n hn;omega⟩
def noAns (s:Int):Ans:=⟨s,noPlan,0,inf,[]⟩
def solveR (i o:List Nat):Ans:=if (parseR i).2≠0 then noAns 0 else if (optsR o).2≠0 then noAns 1 else (parseR i).1.ans ((parseR i).1.search (optsR o).1) (noAns 1)
theorem optsR_may (o:List Nat) (h:(optsR o).2=0):(optsR o).1.mayB=true:=by
 unfold optsR at h ⊢
 split
 ·rename_i e
  rw [if_pos e] at h
  exact absurd h e
 ·rename_i e
  rw [if_neg e] at h
  unfold optsL at h ⊢
  split
  ·rename_i c
   rw [if_pos c] at h
   split
   ·assumption
   ·rename_i c2
    rw [if_neg c2] at h
    cases h
  ·rename_i c
   rw [if_neg c] at h
   cases h
theorem parseR_may (i:List Nat) (h:(parseR i).2=0):(parseR i).1.may=true:=by
 unfold parseR at h ⊢
 split
 ·rename_i e
  rw [if_pos e] at h
  exact absurd h e
 ·rename_i e
  rw [if_neg e] at h
  unfold parseL at h ⊢
  split
  ·rename_i c
   rw [if_pos c] at h
   cases h
  ·rename_i c
   rw [if_neg c] at h
   split
   ·assumption
   ·rename_i c2
    rw [if_neg c2] at h
    cases h
def stage (i o:List Nat) (k:Nat) (x:Inst) (p:Opt) (a:Ans):Prop:=
 (k=0∧a=noAns 0)∨(k=1∧(parseR i).2=0∧x=(parseR i).1∧a=noAns 0)∨
 (k=2∧(parseR i).2=0∧(optsR o).2=0∧x=(parseR i).1∧p=(optsR o).1∧a=noAns 1)∨(k=3∧a=solveR i o)
theorem solve_pure (i o:List Nat) (hi:i.length<2^63) (hi8:∀c∈i,c<256) (ho:o.length<2^63) (ho8:∀c∈o,c<256) (hl:(parseR i).1.stops.length≤7) (hw:(optsR o).1.width≤40):Pure P 14 [.t (.sl (byt i)),.t (.sl (byt o))] ((solveR i o).a):=by
 generalize hR:solveR i o=R
 refine pure_of Tryz.func14 rfl rfl (by simp [Tryz.f14]) (by simp [bnd,bnd.bndL]) (by simp [bnd,bnd.bndL,Ans.a,Ans.cs]) fun B hB hnx=>?_
 simp only [Tryz.f14] at hB ⊢
 have hinf:inf=1152921504606846976:=rfl
 refine K_run hB 100 ?_
 simp [go_sem]
 refine K_call rfl rfl rfl (args:=[]) (f:=19) (by simp [go_sem]) (by simp [go_sem,hB]) ((noplan_pure).spec _ _) ?_
 have hnp:byt [48,10]=byt noPlan:=rfl
 rw [hnp]
 refine K_run hB 60 ?_
 simp [go_sem]
 refine K_less (Imp.looseB (b:=1) (cs:=[.t (.sl (byt i)),.t (.sl (byt o)),.i 0,.i 0,.i 0,.fsl [],.i 0,.i 0,.i 0,.i 0,.t (.sl (byt noPlan)),.i 0,.i 1152921504606846976,.fsl []]) (by simp [oput])) ?_
 refine K_loopP (α:=Nat×Inst×Opt×Ans×(Nat→AObj)) (fun (k,x,p,a,τ)=>stage i o k x p a∧τ 0= .box [.i 0,.fsl [],.i 0,.i 0,.fsl []]∧τ 1= .box (solC i o x p a)∧τ 2= .box [.fn (.func 30) [.ptr 1 0] [],.fn (.func 31) [.ptr 1 0] [],.fn (.func 32) [.ptr 1 0] []]) (fun (k,x,p,a,τ)=>⟨sl [(4,.ptr 0 0),(5,.ptr 1 0),(6,.ptr 2 0),(21,.i k)],τ,3⟩) (fun a=>3-a.1) (0,Inst.zero,zeroO,noAns 0,_) ⟨.inl ⟨rfl,rfl⟩,by simp [oput],by simp [oput,loosen,solC,noAns,Inst.zero,zeroO,hinf,byt],by simp [oput]⟩ (Imp.slots (by simp [go_sem]) rfl rfl) ?_
 rintro ⟨k,x,p,a,τ⟩ ⟨g1,g2,g3,g4⟩
 have last:∀a,R=a→a.cs=[.i a.status,.t (.sl (byt a.text)),.i a.low,.i a.up,.t (.sl (byt a.cert))]:=fun a _=>rfl
 rcases g1 with ⟨rfl,rfl⟩ | ⟨rfl,e1,rfl,rfl⟩ | ⟨rfl,e1,e2,rfl,rfl,rfl⟩ | ⟨rfl,rfl⟩
 ·have hsp:=read_spec i o x p (noAns 0) hi hi8 (σ:=τ) (nx:=3) (q:=1) (by decide) g3
  by_cases e:(parseR i).2=0
  ·rw [decide_eq_true e] at hsp
   refine K_run hB 60 ?_
   simp [go_sem,g4]
   refine K_call rfl rfl rfl (args:=[.ptr 1 0]) (f:=30) (by simp [go_sem]) (by simp [go_sem,hB]) hsp ?_
   refine K_run hB 60 ?_
   simp [go_sem,w64 1 (by omega)]
   exact Next.mk (1,(parseR i).1,p,noAns 0,_) ⟨.inr (.inl ⟨rfl,e,rfl,rfl⟩),by simp [oput,g2],by simp [oput];rfl,by simp [oput,g4]⟩ (Imp.slots (by simp [go_sem]) rfl rfl) (by simp only;omega)
  ·rw [decide_eq_false e] at hsp
   rw [solveR,if_pos e] at hR
   subst hR
   refine K_run hB 60 ?_
   simp [go_sem,g4]
   refine K_call rfl rfl rfl (args:=[.ptr 1 0]) (f:=30) (by simp [go_sem]) (by simp [go_sem,hB]) hsp ?_
   refine K_run hB 60 ?_
   simp [go_sem,g2,solC,noAns,Ans.a,Ans.cs]
 ·have hsp:=choose_spec i o (parseR i).1 p (noAns 0) ho ho8 (σ:=τ) (nx:=3) (q:=1) (by decide) g3
  by_cases e:(optsR o).2=0
  ·rw [decide_eq_true e] at hsp
   refine K_run hB 60 ?_
   simp [go_sem,g4]
   refine K_call rfl rfl rfl (args:=[.ptr 1 0]) (f:=31) (by simp [go_sem]) (by simp [go_sem,hB]) hsp ?_
   refine K_run hB 60 ?_
   simp [go_sem,w64 2 (by omega)]
   exact Next.mk (2,(parseR i).1,(optsR o).1,noAns 1,_) ⟨.inr (.inr (.inl ⟨rfl,e1,e,rfl,rfl,rfl⟩)),by simp [oput,g2],by simp [oput];rfl,by simp [oput,g4]⟩ (Imp.slots (by simp [go_sem]) rfl rfl) (by simp only;omega)
  ·rw [decide_eq_false e] at hsp
   rw [solveR,if_neg (by simp [e1]),if_pos e] at hR
   subst hR
   refine K_run hB 60 ?_
   simp [go_sem,g4]
   refine K_call rfl rfl rfl (args:=[.ptr 1 0]) (f:=31) (by simp [go_sem]) (by simp [go_sem,hB]) hsp ?_
   refine K_run hB 60 ?_
   simp [go_sem,g2,solC,noAns,Ans.a,Ans.cs]
 ·have hm:=parseR_may i e1
  have hop:=optsR_may o e2
  have htd:=search_told hl hm hop hw
  have hsp:=solverun_spec i o (parseR i).1 (optsR o).1 (noAns 1) hl hw (fun h=>plan_digits hl hm (htd.plan h)) (search_lesser hl hw) (σ:=τ) (nx:=3) (q:=1) (by decide) g3
  have hsol:(parseR i).1.ans ((parseR i).1.search (optsR o).1) (noAns 1)=solveR i o:=by rw [solveR,if_neg (by simp [e1]),if_neg (by simp [e2])]
  rw [hsol] at hsp
  refine K_run hB 60 ?_
  simp [go_sem,g4]
  refine K_call rfl rfl rfl (args:=[.ptr 1 0]) (f:=32) (by simp [go_sem]) (by simp [go_sem,hB]) hsp ?_
  refine K_run hB 60 ?_
  simp [go_sem,w64 3 (by omega)]
  exact Next.mk (3,(parseR i).1,(optsR o).1,solveR i o,_) ⟨.inr (.inr (.inr ⟨rfl,rfl⟩)),by simp [oput,g2],by simp [oput],by simp [oput,g4]⟩ (Imp.slots (by simp [go_sem]) rfl rfl) (by simp only;omega)
 ·rw [hR] at g3
  refine K_run hB 60 ?_
  simp [go_sem,g2,g3,solC,Ans.a,Ans.cs]
end Go.Proofs.YtnoifgjiipgpoaaGreatDoor

set_option maxRecDepth 4000
namespace Go.Proofs.YtnoifgjiipgpoaaGreatDoor
open Go Go.Proofs.YtnoifgjiipgpoaaGreatDoor.R
theorem used_all {l:List (List Int)} (h:∀r∈l,r≠[]):usedR l=l:=List.filter_eq_self.2 fun r hr=>decide_eq_true (h r hr)
theorem sortR_idem {l:List (List Int)}:sortR (sortR l)=sortR l:=by
 have h:∀r∈sortR l,r≠[]:=fun r hr=>(sortR_mem.1 hr).2
 conv=>lhs;rw [sortR,used_all h]
 exact isort_self (isort_sort (κ:=firstI) (usedR l)).srt
theorem word_digit {n:Int} (h0:0≤n) (h1:n<10):wordV [48+n.toNat]=some n:=by
 obtain ⟨k,rfl⟩:∃k:Nat,n=k:=⟨n.toNat,by omega⟩
 have hk:k<10:=by omega
 rw [Int.toNat_natCast]
 have hneg:isNeg [48+k]=false:=by
  rw [isNeg]
  exact decide_eq_false (by simp;omega)
 have hd:digB (48+k)=true:=by
  simp only [digB,Bool.and_eq_true,decide_eq_true_eq]
  omega
 have hu:unsign [48+k]=[48+k]:=by rw [unsign,hneg];rfl
 rw [wordV,hu,if_neg (by simp),digsV,if_pos hd,digsV,Option.map_some,hneg,if_neg (by decide)]
 congr 1
 omega
theorem partB_cons (n m:Int) (l:List Int):partB (n :: m :: l)=(48+n.toNat) :: 32 :: partB (m :: l):=rfl
theorem no_lines:segsD noPlan [] []=some [[0]]:=by decide+kernel
theorem row_digits:∀(r out:List Int),(∀n∈r,0≤n∧n<10)→rowD (partB r) out []=some (out++r)
 |[],out,_=>by rw [partB,rowD,wordE,if_pos rfl,List.append_nil]
 |[n],out,h=>by
  obtain ⟨h0,h1⟩:=h n List.mem_cons_self
  rw [partB,rowD,if_neg (by omega),if_neg (by omega),rowD,List.nil_append,wordE,if_neg (by simp),word_digit h0 h1]
  rfl
 |n :: m :: l,out,h=>by
  obtain ⟨h0,h1⟩:=h n List.mem_cons_self
  have ih:=row_digits (m :: l) (out++[n]) fun k hk=>h k (List.mem_cons_of_mem _ hk)
  rw [partB_cons,rowD,if_neg (by omega),if_neg (by omega),rowD,if_neg (by decide),if_pos rfl,List.nil_append,wordE,if_neg (by simp),word_digit h0 h1,Option.map_some,Option.bind_some,ih,List.append_assoc]
  rfl
theorem part_plain:∀(r:List Int),(∀n∈r,0≤n∧n<10)→∀c∈partB r,c≠10
 |[],_,c,hc=>by cases hc
 |[n],h,c,hc=>by
  rw [partB,List.mem_singleton] at hc
  omega
 |n :: m :: l,h,c,hc=>by
  rw [partB_cons] at hc
  rcases List.mem_cons.1 hc with rfl | hc
  ·omega
  ·rcases List.mem_cons.1 hc with rfl | hc
   ·decide
   ·exact part_plain (m :: l) (fun k hk=>h k (List.mem_cons_of_mem _ hk)) c hc
theorem segs_print:∀(l out:List (List Int)),(∀r∈l,r≠[]∧∀n∈r,0≤n∧n<10)→segsD (printB l) out []=some (out++l)
 |[],out,_=>by
  show segsD [] out []=_
  rw [segsD,rowE,rowD,wordE,if_pos rfl,Option.map_some,if_pos rfl,List.append_nil]
 |r :: l,out,h=>by
  obtain ⟨h0,h1⟩:=h r List.mem_cons_self
  have e:printB (r :: l)=partB r++(10 :: printB l):=by
   show lineB r++printB l=_
   rw [lineB,if_neg h0,List.append_assoc]
   rfl
  have hrow:rowE out (partB r)=some (out++[r]):=by rw [rowE,row_digits r [] h1,Option.map_some,List.nil_append,if_neg h0]
  rw [e,segsD_line _ _ _ _ (part_plain r h1),List.nil_append,segsD,if_pos rfl,hrow,Option.bind_some,segs_print l _ fun q hq=>h q (List.mem_cons_of_mem _ hq),List.append_assoc]
  rfl
theorem lines_print {l:List (List Int)} (hD:Digits l) (hne:∀r∈l,r≠[]):linesR (printB l)=(l,0):=by
 have h1:=printB_len (K:=100) l fun r hr=>(hD.row r hr).1
 have h2:=hD.len
 have h3:(2*100+1)*l.length≤(2*100+1)*20:=Nat.mul_le_mul_left _ h2
 rw [←linesD_is,linesD,if_neg (by omega),segs_print l [] fun r hr=>⟨hne r hr,(hD.row r hr).2⟩]
 rfl
theorem least_pos1 (r:List Int) (h0:r≠[]) (h:∀n∈r,1≤n):1≤leastL r r.length:=by
 have:∀(l:List Int) (a:Int),1≤a→(∀n∈l,1≤n)→1≤l.foldl min a:=by
  intro l
  induction l with
  |nil=>exact fun a h _=>h
  |cons b l ih=>exact fun a ha hl=>ih _ (by have:=hl b List.mem_cons_self;show 1≤min a b;omega) fun n hn=>hl n (List.mem_cons_of_mem _ hn)
 unfold leastL
 cases r with
 |nil=>exact absurd rfl h0
 |cons a r=>exact this _ _ (h a List.mem_cons_self) fun n hn=>h n (List.mem_of_mem_take (List.mem_of_mem_drop hn))
theorem plan_text {x:Inst} (hl:x.stops.length≤7) (hm:x.may=true) {rs:List (List Int)} {c:Int} (h:x.cost rs=(c,0)):planR (printB (sortR rs))=(sortR rs,0)∧printB (sortR rs)≠noPlan:=by
 obtain ⟨p,hx⟩:=x.fit hm
 obtain ⟨hok,_⟩:=cost_ok hx hm h
 have hD:=(plan_digits hl hm h).1.sort
 have hne:∀r∈sortR rs,r≠[]:=fun r hr=>(sortR_mem.1 hr).2
 have hpos:∀r∈sortR rs,∀n∈r,1≤n:=fun r hr n hn=>((times_ok hx hm (hok.each r (sortR_mem.1 hr).1).2).1 n hn).1
 refine ⟨?_,fun e=>?_⟩
 ·rw [planR,lines_print hD hne,if_neg (by simp),planL,if_neg]
  rw [List.any_eq_true]
  rintro ⟨r,hr,hb⟩
  have:=least_pos1 r (hne r hr) (hpos r hr)
  have hb:=of_decide_eq_true hb
  omega
 ·have h1:=segs_print (sortR rs) [] fun r hr=>⟨hne r hr,(hD.row r hr).2⟩
  rw [e,no_lines] at h1
  have h3:sortR rs=[[0]]:=(Option.some.inj h1).symm
  have:=hpos [0] (by rw [h3];exact List.mem_singleton.2 rfl) 0 (List.mem_singleton.2 rfl)
  omega
end Go.Proofs.YtnoifgjiipgpoaaGreatDoor

set_option maxRecDepth 4000
set_option maxHeartbeats 1000000
namespace Go.Proofs.YtnoifgjiipgpoaaGreatDoor
open Go Go.Proofs.YtnoifgjiipgpoaaGreatDoor.R
def optB:List Nat:=[49,32,48,32,49,48,48]
theorem optB_is:optsR optB=(⟨1,0,100⟩,0):=by
 have h:linesR optB=([[1,0,100]],0):=by decide+kernel
 rw [optsR,h,if_neg (by decide),optsL,if_pos (by decide),if_pos (by decide)]
 rfl
theorem small_plan:(small.search ⟨1,0,100⟩).plan=[[1,2]]:=by decide+kernel
theorem small_text:printB (sortR [[1,2]])=[49,32,50,10]:=by decide+kernel
theorem small_solve:(solveR smallB optB).status=2∧(solveR smallB optB).text=[49,32,50,10]∧(solveR smallB optB).low=12∧(solveR smallB optB).up=12:=by
 obtain ⟨e1,e2,e3,e4,e5⟩:=small_search
 have e6:=small_plan
 have hs:solveR smallB optB=small.ans (small.search ⟨1,0,100⟩) (noAns 1):=by rw [solveR,small_parse,optB_is,if_neg (by decide),if_neg (by decide)]
 rw [hs,Inst.ans]
 generalize small.search ⟨1,0,100⟩=r at *
 refine ⟨e1,?_,e3,e2⟩
 simp only
 rw [if_pos (by rw [e2];decide),e6]
 exact small_text
theorem awake23_pure:Pure P 11 [] (.b true):=by
 refine pure_of Tryz.func11 rfl rfl (by simp [Tryz.f11]) (by simp [bnd,bnd.bndL]) (by simp [bnd,bnd.bndL]) fun B hB hnx=>?_
 simp only [Tryz.f11] at hB ⊢
 have hs:=solve_pure smallB optB (by decide) (by decide) (by decide) (by decide) (by rw [small_parse];decide) (by rw [optB_is];decide)
 obtain ⟨e1,e2,e3,e4⟩:=small_solve
 rw [Ans.a,Ans.cs,e1,e2,e3,e4] at hs
 generalize byt (solveR smallB optB).cert=C at *
 refine K_run hB 100 ?_
 simp [go_sem]
 refine K_call rfl rfl rfl (args:=[]) (f:=29) (by simp [go_sem]) (by simp [go_sem,hB]) ((small_pure).spec _ _) ?_
 refine K_run hB 1 ?_
 simp [go_sem,small_bytes]
 refine K_bytes (es:=byt optB) rfl rfl rfl rfl rfl tt22 rfl tt5 rfl (by simp [go_sem,byt,optB]) (by simp [go_sem,hB]) (by simp [go_sem,hB]) ?_
 refine K_run hB 100 ?_
 simp [go_sem]
 refine K_call rfl rfl rfl (args:=[.t (.sl (byt smallB)),.t (.sl (byt optB))]) (f:=14) (by simp [go_sem]) (by simp [go_sem,hB]) ((hs).spec _ _) ?_
 refine K_run hB 100 ?_
 simp [go_sem,unbytes_byt]
def few23 (i o:List Nat):Bool:=decide (i.length≤6000)&&decide (o.length≤6000)&&decide ((parseR i).1.stops.length≤7)&&decide ((optsR o).1.width≤40)
theorem few23_pure (i o:List Nat) (hi:i.length<2^63) (hi8:∀c∈i,c<256) (ho:o.length<2^63) (ho8:∀c∈o,c<256):Pure P 12 [.t (.sl (byt i)),.t (.sl (byt o))] (.b (few23 i o)):=by
 generalize hR:few23 i o=R
 refine pure_of Tryz.func12 rfl rfl (by simp [Tryz.f12]) (by simp [bnd,bnd.bndL]) (by simp [bnd,bnd.bndL]) fun B hB hnx=>?_
 simp only [Tryz.f12] at hB ⊢
 rw [few23] at hR
 have h1:=parseB_pure i hi hi8
 have h2:=oparse_pure o ho ho8
 generalize (parseR i).1=x at *
 generalize (parseR i).2=e at *
 generalize (optsR o).1=p at *
 generalize (optsR o).2=f at *
 have hsl:(x.stops.map Stop.t).length=x.stops.length:=List.length_map _
 refine K_run hB 100 ?_
 simp [go_sem]
 refine K_call rfl rfl rfl (args:=[.t (.sl (byt i))]) (f:=16) (by simp [go_sem]) (by simp [go_sem,hB]) ((h1).spec _ _) ?_
 refine K_run hB 100 ?_
 simp [go_sem,Inst.a]
 refine K_call rfl rfl rfl (args:=[.t (.sl (byt o))]) (f:=17) (by simp [go_sem]) (by simp [go_sem,hB]) ((h2).spec _ _) ?_
 by_cases c1:(i.length:Int)≤6000
 rotate_left
 ·have d1:¬i.length≤6000:=by omega
  have:R=false:=by rw [←hR];simp [d1]
  refine K_run hB 100 ?_
  simp [go_sem,Opt.a,Opt.cs,byt_len,hsl,c1,this]
 have d1:i.length≤6000:=by omega
 by_cases c2:(o.length:Int)≤6000
 rotate_left
 ·have d2:¬o.length≤6000:=by omega
  have:R=false:=by rw [←hR];simp [d2]
  refine K_run hB 100 ?_
  simp [go_sem,Opt.a,Opt.cs,byt_len,hsl,c1,c2,this]
 have d2:o.length≤6000:=by omega
 by_cases c3:(x.stops.length:Int)≤7
 rotate_left
 ·have d3:¬x.stops.length≤7:=by omega
  have:R=false:=by rw [←hR];simp [d3]
  refine K_run hB 100 ?_
  simp [go_sem,Opt.a,Opt.cs,byt_len,hsl,c1,c2,c3,this]
 have d3:x.stops.length≤7:=by omega
 have:R=decide (p.width≤40):=by rw [←hR];simp [d1,d2,d3]
 refine K_run hB 100 ?_
 simp [go_sem,Opt.a,Opt.cs,byt_len,hsl,c1,c2,c3,this]
theorem few23_is {i o:List Nat} (h:few23 i o=true):(parseR i).1.stops.length≤7∧(optsR o).1.width≤40:=by
 simp only [few23,Bool.and_eq_true,decide_eq_true_eq] at h
 exact ⟨h.1.2,h.2⟩
theorem solveR_no {i o:List Nat} (e:(parseR i).2≠0):solveR i o=noAns 0:=by rw [solveR,if_pos e]
theorem solveR_opts {i o:List Nat} (e:(parseR i).2=0) (f:(optsR o).2≠0):solveR i o=noAns 1:=by rw [solveR,if_neg (by simp [e]),if_pos f]
theorem solveR_ans {i o:List Nat} (e:(parseR i).2=0) (f:(optsR o).2=0):solveR i o=(parseR i).1.ans ((parseR i).1.search (optsR o).1) (noAns 1):=by rw [solveR,if_neg (by simp [e]),if_neg (by simp [f])]
theorem lsstatus_pure (i o:List Nat) (hi:i.length<2^63) (hi8:∀c∈i,c<256) (ho:o.length<2^63) (ho8:∀c∈o,c<256):Pure P 4 [.t (.sl (byt i)),.t (.sl (byt o))] (.b true):=by
 refine pure_of Tryz.func4 rfl rfl (by simp [Tryz.f4]) (by simp [bnd,bnd.bndL]) (by simp [bnd,bnd.bndL]) fun B hB hnx=>?_
 simp only [Tryz.f4] at hB ⊢
 have hf:=few23_pure i o hi hi8 ho ho8
 have h1:=parseB_pure i hi hi8
 have h2:=oparse_pure o ho ho8
 have hinf:inf=1152921504606846976:=rfl
 refine K_run hB 100 ?_
 simp [go_sem]
 refine K_call rfl rfl rfl (args:=[]) (f:=11) (by simp [go_sem]) (by simp [go_sem,hB]) ((awake23_pure).spec _ _) ?_
 refine K_run hB 100 ?_
 simp [go_sem]
 refine K_call rfl rfl rfl (args:=[.t (.sl (byt i)),.t (.sl (byt o))]) (f:=12) (by simp [go_sem]) (by simp [go_sem,hB]) ((hf).spec _ _) ?_
 cases cf:few23 i o with
 |false=>
  refine K_run hB 100 ?_
  simp [go_sem]
 |true=>
  obtain ⟨c1,c2⟩:=few23_is cf
  have hs:=solve_pure i o hi hi8 ho ho8 c1 c2
  refine K_run hB 100 ?_
  simp [go_sem]
  refine K_call rfl rfl rfl (args:=[.t (.sl (byt i))]) (f:=16) (by simp [go_sem]) (by simp [go_sem,hB]) ((h1).spec _ _) ?_
  refine K_run hB 100 ?_
  simp [go_sem,Inst.a]
  refine K_call rfl rfl rfl (args:=[.t (.sl (byt o))]) (f:=17) (by simp [go_sem]) (by simp [go_sem,hB]) ((h2).spec _ _) ?_
  refine K_run hB 100 ?_
  simp [go_sem,Opt.a,Opt.cs]
  refine K_call rfl rfl rfl (args:=[.t (.sl (byt i)),.t (.sl (byt o))]) (f:=14) (by simp [go_sem]) (by simp [go_sem,hB]) ((hs).spec _ _) ?_
  by_cases e:(parseR i).2=0
  ·by_cases f:(optsR o).2=0
   ·have hst:=(search_told c1 (parseR_may i e) (optsR_may o f) c2).status
    have hst2:(solveR i o).status=2∨(solveR i o).status=3∨(solveR i o).status=4:=by
     rw [solveR_ans e f,Inst.ans]
     rcases hst with ⟨h,_⟩ | ⟨h,_⟩ | ⟨h,_⟩
     ·exact .inl h
     ·exact .inr (.inl h)
     ·exact .inr (.inr h)
    generalize solveR i o=A at *
    rcases hst2 with h | h | h
    all_goals
     refine K_run hB 100 ?_
     simp [go_sem,Ans.a,Ans.cs,e,f,h]
   ·rw [solveR_opts e f]
    refine K_run hB 100 ?_
    simp [go_sem,Ans.a,Ans.cs,e,f,noAns,hinf,byt]
  ·rw [solveR_no e]
   refine K_run hB 100 ?_
   simp [go_sem,Ans.a,Ans.cs,e,noAns,hinf,byt]
end Go.Proofs.YtnoifgjiipgpoaaGreatDoor

set_option maxRecDepth 4000
set_option maxHeartbeats 1000000
namespace Go.Proofs.YtnoifgjiipgpoaaGreatDoor
open Go Go.Proofs.YtnoifgjiipgpoaaGreatDoor.R
theorem cert_byte (p:Prf):∀c∈certR p,c<256:=by
 intro c hc
 unfold certR at hc
 split at hc
 ·have hE:∀ns:List Int,∀c∈encI ns,c<256:=fun ns c hc=>by
   obtain ⟨n,_,hn⟩:=List.mem_flatMap.1 hc
   exact enc_byte _ c hn
  have hS:∀s:CSpot,∀c∈s.enc,c<256:=fun s c hc=>by
   simp only [CSpot.enc,List.mem_append] at hc
   rcases hc with (((hc | hc) | hc) | hc) | hc
   ·exact hE _ c hc
   ·exact enc_byte _ c hc
   ·exact enc_byte _ c hc
   ·exact enc_byte _ c hc
   ·exact hE _ c hc
  have hL:∀l:Layer,∀c∈layEnc l,c<256:=fun l c hc=>by
   rcases List.mem_append.1 hc with hc | hc
   ·exact hE _ c hc
   ·obtain ⟨s,_,hs⟩:=List.mem_flatMap.1 hc
    exact hS s c hs
  have hQ:∀q:Part,∀c∈partEnc q,c<256:=fun q c hc=>by
   rcases List.mem_append.1 hc with hc | hc
   ·exact hE _ c hc
   ·obtain ⟨l,_,hl⟩:=List.mem_flatMap.1 hc
    exact hL l c hl
  simp only [CPrf.enc,List.mem_append] at hc
  rcases hc with ((hc | hc) | hc) | hc
  ·have:∀c∈[72,76,82,49],c<256:=by decide
   exact this c hc
  ·exact hE _ c hc
  ·exact hE _ c hc
  ·obtain ⟨q,_,hq⟩:=List.mem_flatMap.1 hc
   exact hQ q c hq
 ·cases hc
theorem print_byte:∀(l:List (List Int)),(∀r∈l,∀n∈r,0≤n∧n<10)→∀c∈printB l,c<256:=by
 have hP:∀(r:List Int),(∀n∈r,0≤n∧n<10)→∀c∈partB r,c<256:=by
  intro r
  induction r with
  |nil=>exact fun _ c hc=>by cases hc
  |cons n r ih=>
   intro h c hc
   have hn:=h n List.mem_cons_self
   cases r with
   |nil=>
    rw [partB,List.mem_singleton] at hc
    omega
   |cons m r=>
    rw [partB_cons] at hc
    rcases List.mem_cons.1 hc with rfl | hc
    ·omega
    ·rcases List.mem_cons.1 hc with rfl | hc
     ·decide
     ·exact ih (fun k hk=>h k (List.mem_cons_of_mem _ hk)) c hc
 intro l h c hc
 obtain ⟨r,hr,hc⟩:=List.mem_flatMap.1 hc
 unfold lineB at hc
 split at hc
 ·cases hc
 ·rcases List.mem_append.1 hc with hc | hc
  ·exact hP r (h r hr) c hc
  ·rw [List.mem_singleton.1 hc]
   decide
structure Ans.Short (a:Ans):Prop where
 text:a.text.length<2^31
 text8:∀c∈a.text,c<256
 cert:a.cert.length<2^33
 cert8:∀c∈a.cert,c<256
theorem ans_short {i o:List Nat} (e:(parseR i).2=0) (f:(optsR o).2=0) (hl:(parseR i).1.stops.length≤7) (hw:(optsR o).1.width≤40):(solveR i o).Short:=by
 have hm:=parseR_may i e
 have ho:=optsR_may o f
 have htd:=search_told hl hm ho hw
 rw [solveR_ans e f,Inst.ans]
 have hce:=(lesser_c (search_lesser (x:=(parseR i).1) (o:=(optsR o).1) hl hw)).2
 have hmost:mostLen=4294967296:=rfl
 have h8:=cert_byte ((parseR i).1.proofOf ((parseR i).1.search (optsR o).1))
 have hcl:(certR ((parseR i).1.proofOf ((parseR i).1.search (optsR o).1))).length<2^33:=by
  unfold certR
  split
  ·omega
  ·simp
 generalize (parseR i).1.search (optsR o).1=r at *
 by_cases c:r.up<inf
 ·rw [if_pos c]
  have hD:=(plan_digits hl hm (htd.plan c)).1.sort
  have h1:=printB_len (K:=100) (sortR r.plan) fun q hq=>(hD.row q hq).1
  have h2:=hD.len
  have h3:(2*100+1)*(sortR r.plan).length≤(2*100+1)*20:=Nat.mul_le_mul_left _ h2
  exact ⟨by show (printB (sortR r.plan)).length<_;omega,print_byte _ fun q hq=>(hD.row q hq).2,hcl,h8⟩
 ·rw [if_neg c]
  have hn:noPlan.length<2^31:=by decide
  have hn8:∀c∈noPlan,c<256:=by decide
  exact ⟨hn,hn8,hcl,h8⟩
end Go.Proofs.YtnoifgjiipgpoaaGreatDoor

set_option maxRecDepth 100000
namespace Go.Proofs.YtnoifgjiipgpoaaGreatDoor
open Go Go.ChangeShapes Go.WideShapes Go.ChangeAt Go.RowKit Go.Proofs.YtnoifgjiipgpoaaGreatDoor.R
theorem has_u8 {f:Nat} {ts:List T} (h:HasT P f 5 ts):∃n:Nat,ts=[.v (.int .u8 n)]∧n<256:=by
 cases f with
 |zero=>exact h.elim
 |succ f=>
  simp only [HasT,(tt_some tt5).1] at h
  obtain ⟨n,rfl,hw⟩:=h
  have hr:0≤n∧n<256:=by
   simp [Lit.wf,IntKind.min,IntKind.max,IntKind.wrap,IntKind.bits,IntKind.signed] at hw
   omega
  refine ⟨n.toNat,by rw [Int.toNat_of_nonneg hr.1],by omega⟩
theorem has_bytes {f:Nat} {ts:List T} (h:HasT P f 22 ts):∃l:List Nat,ts=[.sl (byt l)]∧l.length≤maxLen∧∀c∈l,c<256:=by
 obtain ⟨l,rfl,h1,h2⟩:=has_slice (g:=fun n:Nat=>[T.v (.int .u8 n)]) (Q:=fun n=>n<256) (tt_some tt22).1 (fun f x h=>has_u8 h) h
 exact ⟨l,rfl,h1,h2⟩
section
variable {H:Type} {enc:TypeId×Value→H} {W:World} {base:Nat} {sp:Nat→Bool} {held:Bool} {v:Value} {d:DataW H} {ps:List MemPlace}
theorem arg_bytes (h:DataW.Trod enc P W 0 sp held 22 v d ps) (hv:Value.okWide P W .any base 22 v):∃l:List Nat,(l.length≤maxLen∧∀c∈l,c<256)∧RepA W (C0 W) (.t (.sl (byt l))) v:=by
 obtain ⟨f,ts,h1,h2⟩:=arg_slice (tt_some tt22).1 (by kernel_rfl) h hv
 obtain ⟨l,rfl,hl⟩:=has_bytes h1
 exact ⟨l,hl,h2 _ rfl⟩
end
end Go.Proofs.YtnoifgjiipgpoaaGreatDoor

set_option maxRecDepth 100000
namespace Go.Proofs.YtnoifgjiipgpoaaGreatDoor
open Go
theorem w_enter:Tryz.prog.mayEnter=true:=by kernel_rfl
theorem w_lift:((false:Bool)==Tryz.prog.liftsFinal)=true:=by kernel_rfl
theorem w_make:(Tryz.prog.make==some Make.cut)=true:=by kernel_rfl
end Go.Proofs.YtnoifgjiipgpoaaGreatDoor

set_option maxRecDepth 100000
namespace Go.Proofs.YtnoifgjiipgpoaaGreatDoor
open Go Go.Proofs.YtnoifgjiipgpoaaGreatDoor.R
def layW (cs:Array Value):Obj→Obj
 | .cells _ t frozen=>.cells cs t frozen
 |o=>o
noncomputable def laidW (os:Os):World:=
 {World.holding Tryz.prog os ⟨#[],#[],[]⟩ with heap:=(((World.holding Tryz.prog os ⟨#[],#[],[]⟩).heap.modify 0 (layW #[.int .u64 1,.int .u64 10,.int .u64 100,.int .u64 1000,.int .u64 10000,.int .u64 100000,.int .u64 1000000,.int .u64 10000000,.int .u64 100000000,.int .u64 1000000000,.int .u64 10000000000,.int .u64 100000000000,.int .u64 1000000000000,.int .u64 10000000000000,.int .u64 100000000000000,.int .u64 1000000000000000,.int .u64 10000000000000000,.int .u64 100000000000000000,.int .u64 1000000000000000000,.int .u64 10000000000000000000])).modify 1 (layW #[.int .u8 0,.int .u8 1,.int .u8 28,.int .u8 2,.int .u8 29,.int .u8 14,.int .u8 24,.int .u8 3,.int .u8 30,.int .u8 22,.int .u8 20,.int .u8 15,.int .u8 25,.int .u8 17,.int .u8 4,.int .u8 8,.int .u8 31,.int .u8 27,.int .u8 13,.int .u8 23,.int .u8 21,.int .u8 19,.int .u8 16,.int .u8 7,.int .u8 26,.int .u8 12,.int .u8 18,.int .u8 6,.int .u8 11,.int .u8 5,.int .u8 10,.int .u8 9])).modify 2 (layW #[.int .u8 0,.int .u8 1,.int .u8 56,.int .u8 2,.int .u8 57,.int .u8 49,.int .u8 28,.int .u8 3,.int .u8 61,.int .u8 58,.int .u8 42,.int .u8 50,.int .u8 38,.int .u8 29,.int .u8 17,.int .u8 4,.int .u8 62,.int .u8 47,.int .u8 59,.int .u8 36,.int .u8 45,.int .u8 43,.int .u8 51,.int .u8 22,.int .u8 53,.int .u8 39,.int .u8 33,.int .u8 30,.int .u8 24,.int .u8 18,.int .u8 12,.int .u8 5,.int .u8 63,.int .u8 55,.int .u8 48,.int .u8 27,.int .u8 60,.int .u8 41,.int .u8 37,.int .u8 16,.int .u8 46,.int .u8 35,.int .u8 44,.int .u8 21,.int .u8 52,.int .u8 32,.int .u8 23,.int .u8 11,.int .u8 54,.int .u8 26,.int .u8 40,.int .u8 15,.int .u8 34,.int .u8 20,.int .u8 31,.int .u8 10,.int .u8 25,.int .u8 14,.int .u8 19,.int .u8 9,.int .u8 13,.int .u8 8,.int .u8 7,.int .u8 6])}
end Go.Proofs.YtnoifgjiipgpoaaGreatDoor
