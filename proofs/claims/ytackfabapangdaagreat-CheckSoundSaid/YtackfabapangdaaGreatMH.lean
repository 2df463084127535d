/- Parts of the proof: ArgP, Law22c, Every, Law15e, ToursP, PlansP, Law20a, SearchP, Law22d. -/
import Derived.Test.YtackfabapangdaaGreatMG
set_option linter.all false
set_option maxHeartbeats 4000000
set_option maxRecDepth 100000
namespace Go.Proofs.YtackfabapangdaaGreat
open Go Go.ChangeShapes Go.WideShapes Go.ChangeAt Go.RowKit Go.Proofs.YtackfabapangdaaGreat.R
theorem has_routes {f:Nat} {ts:List T} (h:HasT P f 29 ts):∃l:List (List Int),ts=[.sl (l.map rowT)]∧l.length≤maxLen∧∀r∈l,r.length≤maxLen:=
 has_slice (g:=rowT) (Q:=fun r=>r.length≤maxLen) (tt_some tt29).1 (fun f x h=>by
  obtain ⟨l,rfl,hl⟩:=has_ints h
  exact ⟨l,rfl,hl⟩) h
theorem has_plan {f:Nat} {ts:List T} (h:HasT P f 31 ts):∃l:List (List Int),ts=[.sl (l.map rowT)]∧l.length≤maxLen∧∀r∈l,r.length≤maxLen:=by
 obtain ⟨f',h⟩:=has_struct (tt_some tt31).1 h
 simp only [HasF] at h
 obtain ⟨a,_,rfl,_,ha,rfl⟩:=h
 obtain ⟨l,rfl,h1,h2⟩:=has_routes ha
 exact ⟨l,rfl,h1,h2⟩
section
variable {H:Type} {enc:TypeId×Value→H} {W:World} {base:Nat} {sp:Nat→Bool} {held:Bool} {v:Value} {d:DataW H} {ps:List MemPlace}
theorem arg_plan (h:DataW.Trod enc P W 0 sp held 31 v d ps) (hv:Value.okWide P W .any base 31 v):∃l:List (List Int),l.length≤maxLen∧(∀r∈l,r.length≤maxLen)∧RepA W (C0 W) (.agg [.t (.sl (l.map rowT))]) v:=by
 obtain ⟨f,ts,h1,h2⟩:=arg_struct (tt_some tt31).1 (by kernel_rfl) h hv
 obtain ⟨l,rfl,hl,hr⟩:=has_plan h1
 exact ⟨l,hl,hr,h2⟩
end
end Go.Proofs.YtackfabapangdaaGreat

set_option maxRecDepth 4000
set_option maxHeartbeats 1000000
namespace Go.Proofs.YtackfabapangdaaGreat
open Go Go.Proofs.YtackfabapangdaaGreat.R
theorem claim_ne (u l:Int):¬(claimR u l).status=5:=by
 unfold claimR
 split
 ·show ¬(2:Int)=5
  decide
 ·split
  ·show ¬(3:Int)=5
   decide
  ·show ¬(4:Int)=5
   decide
theorem lcparts_pure (i t c:List Nat) (hi:i.length<2^63) (hi8:∀c∈i,c<256) (ht:t.length<2^63) (ht8:∀c∈t,c<256) (hc:c.length<2^63) (hc8:∀x∈c,x<256):Pure P 5 [.t (.sl (byt i)),.t (.sl (byt t)),.t (.sl (byt c))] (.b true):=by
 refine pure_of Tryz.func5 rfl rfl (by simp [Tryz.f5]) (by simp [bnd,bnd.bndL]) (by simp [bnd,bnd.bndL]) fun B hB hnx=>?_
 simp only [Tryz.f5] at hB ⊢
 have hf:=few22_pure i t c hi hi8
 have h1:=parseB_pure i hi hi8
 have hlen:=parseR_len i
 have h2:=decode_pure c hc hc8
 have hgood:=dec_once hc8
 have h4:=pparse_pure t ht ht8
 obtain ⟨l1,l2⟩:=planR_len t
 have h5:=cost_pure (parseR i).1 (planR t).1 (by omega) (by omega) fun r hr=>by have:=l2 r hr;omega
 have h6:=ccheck_pure i t c hi hi8 ht ht8 hc hc8
 have h3:=fun (p:CPrf) (hp:p.good)=>check_pure (parseR i).1 p.pf (by omega) (good_fine hp)
 generalize hK:checkR i t c=K at *
 rw [checkR,Inst.costT] at hK
 clear l1 l2 hlen
 generalize few22 i t c=fw at *
 generalize (parseR i).1=x at *
 generalize (parseR i).2=e at *
 generalize (dec c).1=p at *
 generalize (dec c).2=f at *
 generalize (planR t).1=q at *
 generalize (planR t).2=g at *
 generalize x.cost q=w at *
 rw [cbyt_eq,pf_a] at h2
 have hun:=unbytes_byt t
 refine K_run hB 100 ?_
 simp [go_sem]
 refine K_call rfl rfl rfl (args:=[]) (f:=15) (by simp [go_sem]) (by simp [go_sem,hB]) ((awake22_pure).spec _ _) ?_
 refine K_run hB 100 ?_
 simp [go_sem]
 refine K_call rfl rfl rfl (args:=[.t (.sl (byt i)),.t (.sl (byt t)),.t (.sl (byt c))]) (f:=16) (by simp [go_sem]) (by simp [go_sem,hB]) ((hf).spec _ _) ?_
 cases fw with
 |false=>
  refine K_run hB 100 ?_
  simp [go_sem]
 |true=>
  refine K_run hB 100 ?_
  simp [go_sem]
  refine K_call rfl rfl rfl (args:=[.t (.sl (byt i))]) (f:=21) (by simp [go_sem]) (by simp [go_sem,hB]) ((h1).spec _ _) ?_
  refine K_run hB 100 ?_
  simp [go_sem,Inst.a]
  refine K_call rfl rfl rfl (args:=[.t (.sl (byt c))]) (f:=25) (by simp [go_sem]) (by simp [go_sem,hB]) ((h2).spec _ _) ?_
  refine K_run hB 100 ?_
  simp [go_sem,Prf.a,Prf.cs]
  refine K_call rfl rfl rfl (args:=[.t (.sl (byt t))]) (f:=23) (by simp [go_sem]) (by simp [go_sem,hB]) ((h4).spec _ _) ?_
  refine K_run hB 100 ?_
  simp [go_sem,Inst.a]
  refine K_call rfl rfl rfl (args:=[x.a,.agg [.t (.sl (q.map rowT))]]) (f:=22) (by simp [go_sem,Inst.a]) (by simp [go_sem,hB]) ((h5).spec _ _) ?_
  refine K_run hB 100 ?_
  simp [go_sem]
  refine K_drawn [] rfl (by rw [hB];kernel_rfl) ?_
  refine K_run hB 100 ?_
  simp [go_sem,hun]
  refine K_dCallP rfl rfl rfl (args:=[]) (f:=19) (by simp [go_sem]) (noplan_pure) ?_
  have bad5:∀(h:K=⟨5,0,0⟩),K.status=5∧K.low=0∧K.up=0:=fun h=>by rw [h];exact ⟨rfl,rfl,rfl⟩
  by_cases cn:t=[48,10]
  ·have cn2:t.map UInt8.ofNat=[48,10]:=by rw [cn];rfl
   by_cases c1:e=0
   rotate_left
   ·obtain ⟨b1,b2,b3⟩:=bad5 (by rw [←hK,if_pos c1])
    refine K_run hB 100 ?_
    simp [go_sem,unbytes_byt,cn2,c1]
    refine K_call rfl rfl rfl (args:=[.t (.sl (byt i)),.t (.sl (byt t)),.t (.sl (byt c))]) (f:=17) (by simp [go_sem]) (by simp [go_sem,hB]) ((h6).spec _ _) ?_
    refine K_run hB 100 ?_
    simp [go_sem,Clm.a,Clm.cs,b1,b2,b3]
   by_cases c2:f=0
   rotate_left
   ·obtain ⟨b1,b2,b3⟩:=bad5 (by rw [←hK,if_neg (fun h=>h c1),if_pos c2])
    refine K_run hB 100 ?_
    simp [go_sem,unbytes_byt,cn2,c1,c2]
    refine K_call rfl rfl rfl (args:=[.t (.sl (byt i)),.t (.sl (byt t)),.t (.sl (byt c))]) (f:=17) (by simp [go_sem]) (by simp [go_sem,hB]) ((h6).spec _ _) ?_
    refine K_run hB 100 ?_
    simp [go_sem,Clm.a,Clm.cs,b1,b2,b3]
   have h7:=h3 p (hgood c2).2
   generalize x.checkE p.pf=v at *
   refine K_run hB 100 ?_
   simp [go_sem,unbytes_byt,cn2,c1,c2]
   refine K_call rfl rfl rfl (args:=[x.a,p.pf.a]) (f:=26) (by simp [go_sem,Inst.a,Prf.a,Prf.cs]) (by simp [go_sem,hB]) ((h7).spec _ _) ?_
   by_cases c3:v=0
   rotate_left
   ·obtain ⟨b1,b2,b3⟩:=bad5 (by rw [←hK,if_neg (fun h=>h c1),if_neg (fun h=>h c2),if_pos c3])
    refine K_run hB 100 ?_
    simp [go_sem,c3]
    refine K_call rfl rfl rfl (args:=[.t (.sl (byt i)),.t (.sl (byt t)),.t (.sl (byt c))]) (f:=17) (by simp [go_sem]) (by simp [go_sem,hB]) ((h6).spec _ _) ?_
    refine K_run hB 100 ?_
    simp [go_sem,Clm.a,Clm.cs,b1,b2,b3]
   have b1:¬K.status=5:=by
    rw [←hK,if_neg (fun h=>h c1),if_neg (fun h=>h c2),if_neg (fun h=>h c3),if_pos cn,if_pos rfl]
    exact claim_ne _ _
   refine K_run hB 100 ?_
   simp [go_sem,c3]
   refine K_call rfl rfl rfl (args:=[.t (.sl (byt i)),.t (.sl (byt t)),.t (.sl (byt c))]) (f:=17) (by simp [go_sem]) (by simp [go_sem,hB]) ((h6).spec _ _) ?_
   refine K_run hB 100 ?_
   simp [go_sem,Clm.a,Clm.cs,b1]
  ·have cn2:¬t.map UInt8.ofNat=[48,10]:=fun h=>cn ((u8_inj (b:=[48,10]) ht8 (by decide)).1 h)
   have cn3:(t.map UInt8.ofNat==[48,10])=false:=beq_eq_false_iff_ne.2 cn2
   rw [if_neg cn] at hK
   by_cases c1:e=0
   rotate_left
   ·obtain ⟨b1,b2,b3⟩:=bad5 (by rw [←hK,if_pos c1])
    refine K_run hB 100 ?_
    simp [go_sem,unbytes_byt,cn2,cn3,c1]
    refine K_call rfl rfl rfl (args:=[.t (.sl (byt i)),.t (.sl (byt t)),.t (.sl (byt c))]) (f:=17) (by simp [go_sem]) (by simp [go_sem,hB]) ((h6).spec _ _) ?_
    refine K_run hB 100 ?_
    simp [go_sem,Clm.a,Clm.cs,b1,b2,b3]
   by_cases c2:f=0
   rotate_left
   ·obtain ⟨b1,b2,b3⟩:=bad5 (by rw [←hK,if_neg (fun h=>h c1),if_pos c2])
    refine K_run hB 100 ?_
    simp [go_sem,unbytes_byt,cn2,cn3,c1,c2]
    refine K_call rfl rfl rfl (args:=[.t (.sl (byt i)),.t (.sl (byt t)),.t (.sl (byt c))]) (f:=17) (by simp [go_sem]) (by simp [go_sem,hB]) ((h6).spec _ _) ?_
    refine K_run hB 100 ?_
    simp [go_sem,Clm.a,Clm.cs,b1,b2,b3]
   have h7:=h3 p (hgood c2).2
   generalize x.checkE p.pf=v at *
   refine K_run hB 100 ?_
   simp [go_sem,unbytes_byt,cn2,cn3,c1,c2]
   refine K_call rfl rfl rfl (args:=[x.a,p.pf.a]) (f:=26) (by simp [go_sem,Inst.a,Prf.a,Prf.cs]) (by simp [go_sem,hB]) ((h7).spec _ _) ?_
   by_cases c3:v=0
   rotate_left
   ·obtain ⟨b1,b2,b3⟩:=bad5 (by rw [←hK,if_neg (fun h=>h c1),if_neg (fun h=>h c2),if_pos c3])
    refine K_run hB 100 ?_
    simp [go_sem,cn2,cn3,c3]
    refine K_call rfl rfl rfl (args:=[.t (.sl (byt i)),.t (.sl (byt t)),.t (.sl (byt c))]) (f:=17) (by simp [go_sem]) (by simp [go_sem,hB]) ((h6).spec _ _) ?_
    refine K_run hB 100 ?_
    simp [go_sem,Clm.a,Clm.cs,b1,b2,b3]
   rw [if_neg (fun h=>h c1),if_neg (fun h=>h c2),if_neg (fun h=>h c3)] at hK
   by_cases c4:g=0
   rotate_left
   ·obtain ⟨b1,b2,b3⟩:=bad5 (by rw [←hK,if_pos c4,if_neg c4])
    refine K_run hB 100 ?_
    simp [go_sem,cn2,cn3,c3,c4]
    refine K_call rfl rfl rfl (args:=[.t (.sl (byt i)),.t (.sl (byt t)),.t (.sl (byt c))]) (f:=17) (by simp [go_sem]) (by simp [go_sem,hB]) ((h6).spec _ _) ?_
    refine K_run hB 100 ?_
    simp [go_sem,Clm.a,Clm.cs,b1,b2,b3]
   rw [if_neg (show ¬(g≠0) from fun h=>h c4)] at hK
   by_cases c5:w.2=0
   rotate_left
   ·obtain ⟨b1,b2,b3⟩:=bad5 (by rw [←hK,if_neg c5])
    refine K_run hB 100 ?_
    simp [go_sem,cn2,cn3,c3,c4,c5]
    refine K_call rfl rfl rfl (args:=[.t (.sl (byt i)),.t (.sl (byt t)),.t (.sl (byt c))]) (f:=17) (by simp [go_sem]) (by simp [go_sem,hB]) ((h6).spec _ _) ?_
    refine K_run hB 100 ?_
    simp [go_sem,Clm.a,Clm.cs,b1,b2,b3]
   have b1:¬K.status=5:=by
    rw [←hK,if_pos c5]
    exact claim_ne _ _
   refine K_run hB 100 ?_
   simp [go_sem,cn2,cn3,c3,c4,c5]
   refine K_call rfl rfl rfl (args:=[.t (.sl (byt i)),.t (.sl (byt t)),.t (.sl (byt c))]) (f:=17) (by simp [go_sem]) (by simp [go_sem,hB]) ((h6).spec _ _) ?_
   refine K_run hB 100 ?_
   simp [go_sem,Clm.a,Clm.cs,b1]
end Go.Proofs.YtackfabapangdaaGreat

set_option maxRecDepth 4000
namespace Go.Proofs.YtackfabapangdaaGreat
open Go Go.Proofs.YtackfabapangdaaGreat.R
def Inst.everyB (x:Inst) (s:State):Int:=if (x.endS s).2=true then (x.endS s).1 else inf
def Inst.everyF (x:Inst) (f:State→Int) (s:State):List Int→Int→Int
 |[],v=>v
 |j :: l,v=>x.everyF f s l (if f (x.move s j).1<inf∧(x.move s j).2.1+f (x.move s j).1<v then (x.move s j).2.1+f (x.move s j).1 else v)
def Inst.every (x:Inst):Nat→State→Int
 |0,s=>x.everyB s
 |d+1,s=>x.everyF (x.every d) s (x.moves s) (x.everyB s)
theorem everyB_in (x:Inst) (s:State):0≤x.everyB s∧x.everyB s≤inf:=by
 have hinf:inf=1152921504606846976:=rfl
 unfold Inst.everyB
 split
 ·rename_i h
  have:=end_cost h
  omega
 ·omega
theorem everyF_in (x:Inst) {f:State→Int} (hf:∀t,0≤f t∧f t≤inf) (s:State):∀(l:List Int) (v:Int),(∀j∈l,(x.move s j).2.2=true)→0≤v∧v≤inf→0≤x.everyF f s l v∧x.everyF f s l v≤inf
 |[],v,_,h=>h
 |j :: l,v,hl,h=>by
  rw [Inst.everyF]
  refine everyF_in x hf s l _ (fun i hi=>hl i (List.mem_cons_of_mem _ hi)) ?_
  have h1:=move_cost (hl j List.mem_cons_self)
  have h2:=hf (x.move s j).1
  split<;>omega
theorem every_in (x:Inst):∀(d:Nat) (s:State),0≤x.every d s∧x.every d s≤inf
 |0,s=>everyB_in x s
 |d+1,s=>everyF_in x (every_in x d) s _ _ (fun j hj=>moves_mem hj) (everyB_in x s)
theorem every_pure (x:Inst) (hl:x.stops.length<2^31):∀(d:Nat) (s:State),d<2^62→s.ok→Pure P 56 [x.a,s.a,.i d] (.i (x.every d s)):=by
 intro d
 induction d with
 |zero=>
  intro s _ ho
  have he:=end_pure x s (by omega) ho
  show Pure P 56 [x.a,s.a,.i (0:Nat)] (.i (x.everyB s))
  generalize hR:x.everyB s=R
  refine pure_of Tryz.func56 rfl rfl (by simp [Tryz.f56]) (by simp [bnd,bnd.bndL,Inst.a,State.a,State.cs]) (by simp [bnd,bnd.bndL]) fun B hB hnx=>?_
  simp only [Tryz.f56] at hB ⊢
  rw [Inst.everyB] at hR
  generalize x.endS s=E at *
  obtain ⟨c,is⟩:=E
  refine K_run hB 100 ?_
  simp [go_sem,Inst.a,State.a,State.cs]
  refine K_call rfl rfl rfl (args:=[x.a,s.a]) (f:=108) (by simp [go_sem,Inst.a,State.a,State.cs]) (by simp [go_sem,hB]) ((he).spec _ _) ?_
  cases is with
  |false=>
   simp only [Bool.false_eq_true,if_false] at hR
   subst hR
   refine K_run hB 100 ?_
   simp [go_sem,inf]
  |true=>
   simp only [if_true] at hR
   subst hR
   refine K_run hB 100 ?_
   simp [go_sem]
 |succ d ih=>
  intro s hd ho
  have hinf:inf=1152921504606846976:=rfl
  have he:=end_pure x s (by omega) ho
  have hms:=moves_pure x s (by omega) ho
  have hmv:=fun j=>move_pure x s j (by omega) ho
  have hmem:∀j∈x.moves s,(x.move s j).2.2=true:=fun j hj=>moves_mem hj
  have hml:=moves_len x s
  have hok:=fun j=>move_ok x j ho
  have hil:(ints (x.moves s)).length=(x.moves s).length:=List.length_map _
  have hgt:∀(k:Nat) (h:k<(x.moves s).length),(ints (x.moves s))[k]'(by rw [hil];exact h)=[.i ((x.moves s)[k])]:=fun k h=>ints_getS _ h
  have hb:=everyB_in x s
  show Pure P 56 [x.a,s.a,.i (d+1:Nat)] (.i (x.everyF (x.every d) s (x.moves s) (x.everyB s)))
  generalize hR:x.everyF (x.every d) s (x.moves s) (x.everyB s)=R
  refine pure_of Tryz.func56 rfl rfl (by simp [Tryz.f56]) (by simp [bnd,bnd.bndL,Inst.a,State.a,State.cs]) (by simp [bnd,bnd.bndL]) fun B hB hnx=>?_
  simp only [Tryz.f56] at hB ⊢
  have hBe:(if (x.endS s).2=true then (x.endS s).1 else inf)=x.everyB s:=rfl
  generalize x.everyB s=v0 at *
  generalize x.endS s=E at *
  generalize hX:ints (x.moves s)=X at *
  generalize hL:x.moves s=L at *
  obtain ⟨c,is⟩:=E
  have hd1:¬((d:Int)+1≤0):=by omega
  have w0:=w64 (d:Int) (by omega)
  have hd2:(d:Int)+1-1=d:=by omega
  refine K_run hB 100 ?_
  simp [go_sem,Inst.a,State.a,State.cs]
  refine K_call rfl rfl rfl (args:=[x.a,s.a]) (f:=108) (by simp [go_sem,Inst.a,State.a,State.cs]) (by simp [go_sem,hB]) ((he).spec _ _) ?_
  cases is
  all_goals
   simp only [Bool.false_eq_true,if_false,if_true] at hBe
   refine K_run hB 100 ?_
   simp [go_sem,hd1]
   refine K_call rfl rfl rfl (args:=[x.a,s.a]) (f:=109) (by simp [go_sem,Inst.a,State.a,State.cs]) (by simp [go_sem,hB]) ((hms).spec _ _) ?_
   refine K_run hB 100 ?_
   simp [go_sem]
   refine K_loopP (α:=Nat×Int×(Nat→AObj)×Nat) (fun (k,v,σ,nx)=>k≤L.length∧(0≤v∧v≤inf)∧x.everyF (x.every d) s (L.drop k) v=R∧σ 0= .box [.t (.i x.pairs),.t (.i x.cars),.t (.i x.room),.t (.sl (x.stops.map Stop.t))]∧σ 1= .box s.cs∧1<nx)
    (fun (k,v,σ,nx)=>⟨sl [(2,.i ((d:Int)+1)),(3,.ptr 0 0),(4,.ptr 1 0),(7,.i v),(10,.t (.sl X)),(11,.i k)],σ,nx⟩) (fun a=>L.length-a.1) (0,v0,_,2) ⟨Nat.zero_le _,hb,hR,by simp [oput],by simp [oput,State.cs],by omega⟩ (Imp.slots (by simp [go_sem,←hBe,inf]) rfl rfl) ?_
   rintro ⟨k,v,σ,nx⟩ ⟨g1,g0,g5,g2,g3,g4⟩
   refine K_run hB 60 ?_
   simp [go_sem,hil]
   refine fork_dec (fun hk=>?_) (fun hk=>?_)
   ·have hkk:IntKind.i64.wrap ((k:Int)+1)=((k+1:Nat):Int):=by rw [w64 ((k:Int)+1) (by omega)];rfl
    have hget:∀h:k<X.length,X[k]'h=[.i L[k]]:=fun h=>hgt k hk
    rw [List.drop_eq_getElem_cons hk,Inst.everyF] at g5
    have hj:=hmem L[k] (List.getElem_mem _)
    have h1:=move_cost hj
    have h2:=every_in x d (x.move s L[k]).1
    have h3:=ih (x.move s L[k]).1 (by omega) (hok _)
    have h4:=hmv L[k]
    generalize L[k]=j at *
    generalize x.move s j=V at *
    obtain ⟨t,c',is'⟩:=V
    simp only at h1 h2 h3 hj g5
    subst hj
    generalize x.every d t=m at *
    have w1:=w64 (c'+m) (by omega)
    simp [go_sem]
    refine K_drawnF [11,12] [0,1,2,3,4,5,6,7,8,9,10] rfl (by rw [hB];kernel_rfl) (by kernel_rfl) fun ht hf'=>?_
    refine K_run hB 100 ?_
    simp [go_sem,ht,hf',hil,hk,hget,g2,g3,State.cs]
    refine K_dCallP rfl rfl rfl (args:=[x.a,s.a,.i j]) (f:=89) (by simp [go_sem,Inst.a,State.a,State.cs]) (h4) ?_
    refine K_run hB 100 ?_
    simp [go_sem,ht,hf',mv,State.a,State.cs,g2,g3,show ¬0=nx by omega,show ¬1=nx by omega,hd2,w0]
    refine K_call rfl rfl rfl (args:=[x.a,t.a,.i d]) (f:=56) (by simp [go_sem,Inst.a,State.a,State.cs]) (by simp [go_sem,hB]) ((h3).spec _ _) ?_
    by_cases e1:m<inf
    ·by_cases e2:c'+m<v
     ·rw [if_pos ⟨e1,e2⟩] at g5
      rw [hinf] at e1
      refine K_run hB 100 ?_
      simp [go_sem,w1,e1,e2,hkk]
      refine Next.mk (k+1,c'+m,_,nx+1) ?_ (Imp.slots (by simp [go_sem]) rfl rfl) (by simp only;omega)
      refine ⟨by simp only;omega,by simp only;omega,g5,?_,?_,by simp only;omega⟩
      ·simp [oput,show ¬0=nx by omega,g2]
      ·simp [oput,show ¬1=nx by omega,g3,State.cs]
     ·rw [if_neg (fun h=>e2 h.2)] at g5
      rw [hinf] at e1
      refine K_run hB 100 ?_
      simp [go_sem,w1,e1,e2,hkk]
      refine Next.mk (k+1,v,_,nx+1) ?_ (Imp.slots (by simp [go_sem]) rfl rfl) (by simp only;omega)
      refine ⟨by simp only;omega,g0,g5,?_,?_,by simp only;omega⟩
      ·simp [oput,show ¬0=nx by omega,g2]
      ·simp [oput,show ¬1=nx by omega,g3,State.cs]
    ·rw [if_neg (fun h=>e1 h.1)] at g5
     rw [hinf] at e1
     refine K_run hB 100 ?_
     simp [go_sem,w1,e1,hkk]
     refine Next.mk (k+1,v,_,nx+1) ?_ (Imp.slots (by simp [go_sem]) rfl rfl) (by simp only;omega)
     refine ⟨by simp only;omega,g0,g5,?_,?_,by simp only;omega⟩
     ·simp [oput,show ¬0=nx by omega,g2]
     ·simp [oput,show ¬1=nx by omega,g3,State.cs]
   ·have:k=L.length:=by omega
    subst this
    rw [List.drop_length,Inst.everyF] at g5
    simp [go_sem,g5]
def Inst.deepN (x:Inst):Nat:=(2*x.pairs+x.cars-1).toNat
def Inst.everyAll (x:Inst):Int:=x.every x.deepN x.rootS
theorem everyAll_pure (x:Inst) (hm:x.may=true):Pure P 24 [x.a] (.i x.everyAll):=by
 obtain ⟨p,hx⟩:=x.fit hm
 have hlen:=hx.len
 have hfew:=hx.few
 have hp:=hx.pairs
 have hcar:=hx.cars
 have hev:=every_pure x (by omega) x.deepN x.rootS (by unfold Inst.deepN;omega) (rootS_ok x)
 have hr:=root_pureS x (by omega)
 have hde:(x.deepN:Int)=2*x.pairs+x.cars-1:=by unfold Inst.deepN;omega
 rw [hde] at hev
 have w1:=w64 (2*x.pairs) (by omega)
 have w2:=w64 (2*x.pairs+x.cars) (by omega)
 have w3:=w64 (2*x.pairs+x.cars-1) (by omega)
 unfold Inst.everyAll
 generalize x.every x.deepN x.rootS=R at *
 generalize x.rootS=r at *
 refine pure_of Tryz.func24 rfl rfl (by simp [Tryz.f24]) (by simp [bnd,bnd.bndL,Inst.a]) (by simp [bnd,bnd.bndL]) fun B hB hnx=>?_
 simp only [Tryz.f24] at hB ⊢
 refine K_run hB 100 ?_
 simp [go_sem,Inst.a]
 refine K_drawn [] rfl (by rw [hB];kernel_rfl) ?_
 refine K_run hB 100 ?_
 simp [go_sem]
 refine K_dCallP rfl rfl rfl (args:=[x.a]) (f:=57) (by simp [go_sem,Inst.a]) (hr) ?_
 refine K_run hB 100 ?_
 simp [go_sem,w1,w2,w3]
 refine K_dCallP rfl rfl rfl (args:=[x.a,r.a,.i (2*x.pairs+x.cars-1)]) (f:=56) (by simp [go_sem,Inst.a,State.a,State.cs]) (hev) ?_
 refine K_run hB 100 ?_
 simp [go_sem]
end Go.Proofs.YtackfabapangdaaGreat

set_option maxRecDepth 4000
namespace Go.Proofs.YtackfabapangdaaGreat
open Go Go.Proofs.YtackfabapangdaaGreat.R
theorem everyF_from (x:Inst) (f:State→Int) (s:State):∀(l:List Int) (v:Int),x.everyF f s l v=v∨∃j∈l,f (x.move s j).1<inf∧x.everyF f s l v=(x.move s j).2.1+f (x.move s j).1
 |[],v=>.inl rfl
 |i :: l,v=>by
  rw [Inst.everyF]
  rcases everyF_from x f s l (if f (x.move s i).1<inf∧(x.move s i).2.1+f (x.move s i).1<v then (x.move s i).2.1+f (x.move s i).1 else v) with h | ⟨j,hj,h1,h2⟩
  ·rw [h]
   split
   ·rename_i hc
    exact .inr ⟨i,List.mem_cons_self,hc.1,rfl⟩
   ·exact .inl rfl
  ·exact .inr ⟨j,List.mem_cons_of_mem _ hj,h1,h2⟩
theorem every_from (x:Inst):∀(d:Nat) (s:State),x.every d s<inf→∃w,x.way w s (x.every d s)
 |0,s,h=>by
  rw [Inst.every,Inst.everyB] at h ⊢
  split at h
  ·rename_i hc
   rw [if_pos hc]
   exact ⟨[],hc,rfl⟩
  ·omega
 |d+1,s,h=>by
  rw [Inst.every] at h ⊢
  rcases everyF_from x (x.every d) s (x.moves s) (x.everyB s) with e | ⟨j,hj,h1,h2⟩
  ·rw [e] at h ⊢
   rw [Inst.everyB] at h ⊢
   split at h
   ·rename_i hc
    rw [if_pos hc]
    exact ⟨[],hc,rfl⟩
   ·omega
  ·rw [h2]
   obtain ⟨w,hw⟩:=every_from x d _ h1
   exact ⟨j :: w,moves_mem hj,_,hw,rfl⟩
end Go.Proofs.YtackfabapangdaaGreat

set_option maxRecDepth 4000
namespace Go.Proofs.YtackfabapangdaaGreat
open Go Go.Proofs.YtackfabapangdaaGreat.R
structure Sim1 (x:Inst) (p m0:Nat) (s:State) (c:Car) (k:Nat):Prop where
 spot:c.spot=s.spot
 now:c.now=s.time
 load:c.load=s.load
 on:c.on=s.on
 seen:∀i,1≤i→i≤2*p→s.must.testBit i=(m0.testBit i||c.seen.testBit i)
 old:∀i,1≤i→i≤p→m0.testBit i=true→m0.testBit (i+p)=true
 fit:c.Fit p k
 good:Good x p s
theorem Sim1.step {x:Inst} {p m0 k:Nat} {s:State} {c:Car} {j:Int} (hx:x.Fit p) (h:Sim1 x p m0 s c k) (hj:j≠0) (hm:(x.move s j).2.2=true):
  (x.visitC c j).2=0∧Sim1 x p m0 (x.move s j).1 (x.visitC c j).1 (k+1)∧(x.visitC c j).1.gone=c.gone+(x.move s j).2.1:=by
 obtain ⟨g1,g2,g3,g4,g5,g6⟩:=good_step hx h.good hm
 obtain ⟨m1,m2,m3,m4,m5,m6,m7,m8⟩:=move_pos hm hj
 have hp:=hx.pairs
 have hfew:=hx.few
 obtain ⟨i,rfl⟩:∃i:Nat,j=i:=⟨j.toNat,by omega⟩
 simp only [Inst.lateB,Bool.or_eq_false_iff,decide_eq_false_iff_not] at m5
 rw [has_testN (by omega)] at m5
 have hs:=h.seen i (by omega) (by omega)
 rw [m5.1] at hs
 have hv:x.visitsE c i=0:=by
  rw [Inst.visitsE,if_neg (by omega),if_neg,if_neg,if_neg]
  ·rw [h.load]
   by_cases hi:(i:Int)≤x.pairs
   ·have:=m6 hi
    simp only [Inst.fullB,Bool.or_eq_false_iff,decide_eq_false_iff_not] at this
    omega
   ·have hb:=hx.bring (k:=i-p) (by omega) (by omega)
    have ht:=hx.take (k:=i-p) (by omega) (by omega)
    have hr:=h.good.room
    rw [show i-p+p=i by omega] at hb
    omega
  ·rintro ⟨hi,hq⟩
   have:=m7 hi
   simp only [Inst.emptyB,Bool.or_eq_false_iff,Bool.not_eq_false',decide_eq_false_iff_not] at this
   have e:(i:Int)-x.pairs=((i-p:Nat):Int):=by omega
   rw [e] at this hq
   rw [has_testN (by omega),h.good.eq] at this
   rw [has_testN (by omega)] at hq
   have h1:=h.seen (i-p) (by omega) (by omega)
   rw [this.2,hq,Bool.or_false] at h1
   have h2:=h.old (i-p) (by omega) (by omega) h1.symm
   rw [show i-p+p=i by omega] at h2
   rw [h2] at hs
   cases hs
  ·rw [has_testN (by omega)]
   intro hq
   rw [hq,Bool.or_true] at hs
   cases hs
 have hfar:x.visitC c i=({spot:=i,now:=x.begins s i+(x.stop i).service,gone:=c.gone+far (x.stop s.spot) (x.stop i),load:=s.load+(x.stop i).demand,seen:=withN c.seen i,on:=if (i:Int)≤x.pairs then withN s.on i else withoutN s.on (i-x.pairs),times:=c.times++[[.i (s.time+far (x.stop s.spot) (x.stop i)),.i (x.begins s i),.i (x.begins s i+(x.stop i).service)]],loads:=c.loads++[s.load+(x.stop i).demand]},0):=by
  rw [Inst.visitC,if_neg (by simp [hv]),h.spot,h.now,h.load,h.on,if_neg]
  ·rfl
  ·have:=m5.2
   unfold Inst.begins at this
   exact this
 have hfit:=visitC_fit hx h.fit (i:=i) (by rw [hfar])
 rw [hfar] at hfit ⊢
 rw [if_pos (by omega)] at g4 g6
 refine ⟨rfl,⟨?_,?_,?_,?_,?_,h.old,hfit,g1⟩,?_⟩
 ·rw [m8];rfl
 ·rw [m8];rfl
 ·rw [g6]
 ·rw [m8];rfl
 ·intro n n1 n2
  rw [g4,with_bit (by omega),with_bit (by omega),h.seen n n1 n2,Bool.or_assoc]
 ·rw [m8]
theorem runC_cons {x:Inst} {i:Int} {r:List Int} {c:Car} (h:(x.visitC c i).2=0):x.runC (i :: r) c=x.runC r (x.visitC c i).1:=by
 rw [Inst.runC,if_neg (by simp [h])]
end Go.Proofs.YtackfabapangdaaGreat

set_option maxRecDepth 4000
namespace Go.Proofs.YtackfabapangdaaGreat
open Go Go.Proofs.YtackfabapangdaaGreat.R
def Inst.gones (x:Inst):List (List Int)→Int
 |[]=>0
 |r :: rs=>(x.times r).2.1+x.gones rs
theorem gones_perm (x:Inst) {a b:List (List Int)} (h:a.Perm b):x.gones a=x.gones b:=by
 induction h with
 |nil=>rfl
 |cons r _ ih=>simp only [Inst.gones,ih]
 |swap r s l=>simp only [Inst.gones];omega
 |trans _ _ h1 h2=>exact h1.trans h2
structure PlanOK (x:Inst) (p:Nat) (rs:List (List Int)):Prop where
 cars:(rs.length:Int)≤x.cars
 each:∀r∈rs,r≠[]∧(x.times r).2.2=0
 once:rs.flatten.Nodup
 all:∀i:Nat,1≤i→i≤2*p→(i:Int)∈rs.flatten
theorem PlanOK.perm {x:Inst} {p:Nat} {a b:List (List Int)} (h:PlanOK x p a) (hp:a.Perm b):PlanOK x p b:=
 ⟨by rw [←hp.length_eq];exact h.cars,fun r hr=>h.each r (hp.mem_iff.2 hr),(hp.flatten.nodup_iff).1 h.once,fun i h1 h2=>(hp.flatten.mem_iff).1 (h.all i h1 h2)⟩
theorem bump_count {i:Nat}:∀(r:List Int) (s:List Int) (h:i<s.length),(∀j∈r,0≤j)→(r.foldl bump s)[i]'(by rw [bumps_len];exact h)=s[i]+(r.count (i:Int):Nat)
 |[],s,h,_=>by simp
 |j :: r,s,h,hr=>by
  have h0:=hr j List.mem_cons_self
  have ih:=bump_count r (bump s j) (by rw [bump_len];exact h) fun k hk=>hr k (List.mem_cons_of_mem _ hk)
  simp only [List.foldl_cons]
  rw [ih,List.count_cons]
  simp only [bump,List.getElem_set]
  by_cases e:j.toNat=i
  ·have e2:j=(i:Int):=by omega
   have e3:s.getD j.toNat 0=s[i]:=by rw [e,List.getD_eq_getElem?_getD,List.getElem?_eq_getElem h];rfl
   rw [if_pos e,e3,e2]
   simp only [beq_self_eq_true,if_true]
   omega
  ·have e2:¬j=(i:Int):=by omega
   rw [if_neg e]
   simp [e2]
theorem costGo_ok {x:Inst} {p:Nat} (hx:x.Fit p) (hm:x.may=true):∀(rs:List (List Int)) (all:Int) (seen:List Int) {c:Int},seen.length=2*p+1→x.costGo rs all seen=(c,0)→
  c=all+x.gones rs∧(∀r∈rs,r≠[]∧(x.times r).2.2=0)∧((rs.flatten.foldl bump seen).any fun n=>decide (1<n))=false∧(((rs.flatten.foldl bump seen).drop 1).any fun n=>decide (n=0))=false
 |[],all,seen,c,hs,h=>by
  rw [Inst.costGo] at h
  split at h
  ·cases h
  split at h
  ·cases h
  rename_i h1 h2
  simp only [Prod.mk.injEq,and_true] at h
  exact ⟨by simp only [Inst.gones];omega,by simp,(Bool.not_eq_true _).mp h1,(Bool.not_eq_true _).mp h2⟩
 |r :: rs,all,seen,c,hs,h=>by
  rw [Inst.costGo] at h
  split at h
  ·cases h
  split at h
  ·rename_i h1 h2
   simp only [Prod.mk.injEq] at h
   exact absurd h.2 h2
  rename_i h1 h2
  obtain ⟨g1,g2,g3,g4⟩:=costGo_ok hx hm rs _ _ (by rw [bumps_len];exact hs) h
  refine ⟨by simp only [Inst.gones];omega,fun q hq=>?_,by rw [List.flatten_cons,List.foldl_append];exact g3,by rw [List.flatten_cons,List.foldl_append];exact g4⟩
  rcases List.mem_cons.1 hq with rfl | hq
  ·exact ⟨fun e=>h1 (by rw [e];rfl),by simpa using h2⟩
  ·exact g2 q hq
theorem cost_ok {x:Inst} {p:Nat} (hx:x.Fit p) (hm:x.may=true) {rs:List (List Int)} {c:Int} (h:x.cost rs=(c,0)):PlanOK x p rs∧c=x.gones rs:=by
 have hp:=hx.pairs
 rw [Inst.cost,if_neg (by simp [hm])] at h
 split at h
 ·cases h
 rename_i hc
 have hlen:(List.replicate (2*x.pairs+1).toNat (0:Int)).length=2*p+1:=by rw [List.length_replicate];omega
 obtain ⟨g1,g2,g3,g4⟩:=costGo_ok hx hm rs _ _ hlen h
 have hstop:∀i∈rs.flatten,1≤i∧i≤2*p:=fun i hi=>by
  obtain ⟨r,hr,hir⟩:=List.mem_flatten.1 hi
  exact (times_ok hx hm (g2 r hr).2).1 i hir
 have hcnt:∀i:Nat,(hi:i≤2*p)→(rs.flatten.foldl bump (List.replicate (2*x.pairs+1).toNat 0))[i]'(by rw [bumps_len,hlen];omega)=((rs.flatten.count (i:Int):Nat):Int):=fun i hi=>by
  rw [bump_count _ _ (by rw [hlen];omega) (fun j hj=>by have:=hstop j hj;omega)]
  simp
 have hfl:=bumps_len rs.flatten (List.replicate (2*x.pairs+1).toNat (0:Int))
 rw [hlen] at hfl
 refine ⟨⟨by omega,g2,?_,?_⟩,by omega⟩
 ·rw [List.nodup_iff_count]
  intro a
  by_cases ha:a∈rs.flatten
  ·obtain ⟨h1,h2⟩:=hstop a ha
   obtain ⟨i,rfl⟩:∃i:Nat,a=i:=⟨a.toNat,by omega⟩
   have h3:=hcnt i (by omega)
   rw [List.any_eq_false] at g3
   have h4:=g3 _ (List.getElem_mem (l:=rs.flatten.foldl bump (List.replicate (2*x.pairs+1).toNat 0)) (n:=i) (by rw [hfl];omega))
   rw [h3] at h4
   simp only [decide_eq_true_eq] at h4
   omega
  ·rw [List.count_eq_zero.2 ha]
   omega
 ·intro i h1 h2
  by_cases ha:(i:Int)∈rs.flatten
  ·exact ha
  ·exfalso
   have h3:=hcnt i h2
   rw [List.count_eq_zero.2 ha] at h3
   rw [List.any_eq_false] at g4
   refine g4 _ (List.mem_iff_getElem.2 ⟨i-1,by rw [List.length_drop,hfl];omega,?_⟩) (decide_eq_true rfl)
   rw [List.getElem_drop]
   have e:1+(i-1)=i:=by omega
   simp only [e]
   exact h3
theorem Sim1.back {x:Inst} {p m0 k:Nat} {s:State} {c:Car} {j:Int} (hx:x.Fit p) (hm:x.may=true) (h:Sim1 x p m0 s c k) (hcar:1≤s.car∧s.car≤x.cars) (hv:(x.visitC c j).2=0) (hn:∀i:Nat,j=i→s.must.testBit i=false) (hf:s.spot=0→c.seen=0∧s.first<j):
  (x.move s j).2.2=true∧0<j:=by
 have hp:=hx.pairs
 have hfew:=hx.few
 rw [Inst.visitC] at hv
 split at hv
 ·rename_i hh;exact absurd hv hh
 rename_i hvs
 split at hv
 ·cases hv
 rename_i hdue
 obtain ⟨k1,k2,k3,k4,k5⟩:=visits_ok (by simpa using hvs)
 obtain ⟨i,rfl⟩:∃i:Nat,j=i:=⟨j.toNat,by omega⟩
 have hmi:=hn i rfl
 have hsum:=sumOn_pos hx s.on p (Nat.le_refl _)
 have hmay:s.mayB x=true:=by
  have h1:=h.fit.spot
  have h2:=h.fit.now
  have h3:=h.good.load
  have h4:=h.good.room
  have h5:=hx.room
  have h6:=h.spot
  have h7:=h.now
  simp only [State.mayB,Bool.and_eq_true,decide_eq_true_eq]
  omega
 have l1:x.lateB s i=false:=by
  simp only [Inst.lateB,Bool.or_eq_false_iff,decide_eq_false_iff_not]
  rw [has_testN (by omega)]
  refine ⟨hmi,?_⟩
  unfold Inst.begins
  rw [←h.now,←h.spot]
  omega
 have l2:(i:Int)≤x.pairs→x.fullB s i=false:=fun hi=>by
  simp only [Inst.fullB,Bool.or_eq_false_iff,Bool.and_eq_false_iff,decide_eq_false_iff_not]
  rw [←h.load]
  refine ⟨by omega,?_⟩
  by_cases hs:s.spot=0
  ·have:=hf hs
   exact .inr (by omega)
  ·exact .inl hs
 have l3:x.pairs<(i:Int)→x.emptyB s i=false:=fun hi=>by
  have hb:=k4 hi
  have e:(i:Int)-x.pairs=((i-p:Nat):Int):=by omega
  rw [e,has_testN (by omega)] at hb
  simp only [Inst.emptyB,Bool.or_eq_false_iff,Bool.not_eq_false',decide_eq_false_iff_not]
  rw [e,has_testN (by omega),h.good.eq,h.seen (i-p) (by omega) (by omega),hb]
  refine ⟨fun hs=>?_,by simp⟩
  have:=(hf hs).1
  rw [this,Nat.zero_testBit] at hb
  cases hb
 have hto:=to_visit (x:=x) (s:=s) (j:=i) (by omega) l1 l2 l3
 have hmv:=move_mk (j:=i) hm hmay (by omega) (by rw [hto])
 exact ⟨by rw [hmv],by omega⟩
theorem route_fwd {x:Inst} {p m0:Nat} (hx:x.Fit p) (hm:x.may=true):∀(r:List Int) (s:State) (c:Car) (k:Nat),Sim1 x p m0 s c k→s.spot≠0→(1≤s.car∧s.car≤x.cars)→(x.runC r c).2=0→r.Nodup→(∀i:Nat,(i:Int)∈r→s.must.testBit i=false)→
  ∃s' c1 k',Sim1 x p m0 s' c1 k'∧s'.spot≠0∧s'.car=s.car∧s'.first=s.first∧x.homeC c1=x.runC r c∧(∀i,1≤i→i≤2*p→s'.must.testBit i=(s.must.testBit i||decide ((i:Int)∈r)))∧
   ∀path d,x.way path s' d→x.way (r++path) s (c1.gone-c.gone+d)
 |[],s,c,k,hs,hsp,hcar,hr,_,_=>by
  refine ⟨s,c,k,hs,hsp,rfl,rfl,rfl,fun i _ _=>by simp,fun path d hw=>?_⟩
  have:c.gone-c.gone+d=d:=by omega
  rw [this]
  exact hw
 |j :: r,s,c,k,hs,hsp,hcar,hr,hnd,hdis=>by
  have hv:(x.visitC c j).2=0:=by
   rw [Inst.runC] at hr
   by_cases c1:(x.visitC c j).2=0
   ·exact c1
   ·rw [if_pos c1] at hr;exact absurd hr c1
  rw [runC_cons hv] at hr ⊢
  rw [List.nodup_cons] at hnd
  obtain ⟨b1,b2⟩:=hs.back hx hm hcar hv (fun i e=>hdis i (by rw [e];exact List.mem_cons_self)) (fun h=>absurd h hsp)
  obtain ⟨v1,v2,v3⟩:=hs.step hx (by omega) b1
  obtain ⟨_,_,p3,p4,_,_,_,m8⟩:=move_pos b1 (by omega)
  obtain ⟨_,_,_,q4,_,_⟩:=good_step hx hs.good b1
  have hfew:=hx.few
  have hp:=hx.pairs
  rw [if_pos b2] at q4
  have e1:(x.move s j).1.car=s.car:=by rw [m8];rfl
  have e2:(x.move s j).1.first=s.first:=by rw [m8];show (if s.spot=0 then j else s.first)=s.first;rw [if_neg hsp]
  have e3:(x.move s j).1.spot≠0:=by rw [m8];show j≠0;omega
  obtain ⟨n,rfl⟩:∃n:Nat,j=n:=⟨j.toNat,by omega⟩
  have hbit:∀i,(x.move s (n:Int)).1.must.testBit i=(s.must.testBit i||decide (n=i)):=fun i=>by rw [q4,with_bit (by omega)]
  obtain ⟨s',c1,k',g1,g2,g3,g4,g5,g6,g7⟩:=route_fwd hx hm r _ _ _ v2 e3 (by rw [e1];exact hcar) hr hnd.2 (fun i hi=>by
   rw [hbit,hdis i (List.mem_cons_of_mem _ hi)]
   have:¬n=i:=by rintro rfl;exact hnd.1 hi
   simp [this])
  refine ⟨s',c1,k',g1,g2,by rw [g3,e1],by rw [g4,e2],g5,fun i i1 i2=>?_,fun path d hw=>?_⟩
  ·rw [g6 i i1 i2,hbit,Bool.or_assoc]
   congr 1
   rw [Bool.eq_iff_iff]
   simp only [Bool.or_eq_true,decide_eq_true_eq,List.mem_cons]
   constructor
   ·rintro (rfl | h)
    ·exact .inl rfl
    ·exact .inr h
   ·rintro (h | h)
    ·exact .inl (by omega)
    ·exact .inr h
  ·refine ⟨b1,_,g7 path d hw,?_⟩
   omega
def headI (r:List Int):Int:=r.getD 0 0
theorem route_first {x:Inst} {p:Nat} (hx:x.Fit p) (hm:x.may=true) {r:List Int} {s:State} (hsp:s.spot=0) (hon:s.on=0) (hld:s.load=0) (hti:s.time=(x.stop 0).ready) (hg:Good x p s) (hc:1≤s.car∧s.car≤x.cars) (hne:r≠[]) (ht:(x.times r).2.2=0) (hnd:r.Nodup)
  (hdis:∀i:Nat,(i:Int)∈r→s.must.testBit i=false) (hfi:s.first<headI r):
  ∃s' c1 k',Sim1 x p s.must s' c1 k'∧s'.spot≠0∧s'.car=s.car∧s'.first=headI r∧(x.homeC c1).2=0∧(x.times r).2.1=(x.homeC c1).1.gone∧(∀i,1≤i→i≤2*p→s'.must.testBit i=(s.must.testBit i||decide ((i:Int)∈r)))∧
   ∀path d,x.way path s' d→x.way (r++path) s (c1.gone+d):=by
 match r,hne with
 |j :: r,_=>
  have hs:Sim1 x p s.must s x.car0 0:=by
   refine ⟨hsp.symm,hti.symm,hld.symm,hon.symm,fun i _ _=>by simp [Inst.car0],fun i i1 i2 h=>?_,car0_fit hx,hg⟩
   have:=hg.on i i1 i2
   rw [hon,Nat.zero_testBit,h] at this
   simpa using this.symm
  have hrun:(x.runC (j :: r) x.car0).2=0:=by
   rw [Inst.times,if_neg (by simp [hm])] at ht
   by_cases c1:(x.runC (j :: r) x.car0).2=0
   ·exact c1
   ·rw [if_pos c1] at ht;exact absurd ht c1
  have htm:(x.times (j :: r)).2.1=(x.runC (j :: r) x.car0).1.gone:=by rw [Inst.times,if_neg (by simp [hm]),if_neg (by simp [hrun])]
  have hv:(x.visitC x.car0 j).2=0:=by
   rw [Inst.runC] at hrun
   by_cases c1:(x.visitC x.car0 j).2=0
   ·exact c1
   ·rw [if_pos c1] at hrun;exact absurd hrun c1
  rw [runC_cons hv] at hrun htm
  rw [List.nodup_cons] at hnd
  have hhd:headI (j :: r)=j:=rfl
  rw [hhd] at hfi ⊢
  obtain ⟨b1,b2⟩:=hs.back hx hm hc hv (fun i e=>hdis i (by rw [e];exact List.mem_cons_self)) (fun _=>⟨rfl,hfi⟩)
  obtain ⟨v1,v2,v3⟩:=hs.step hx (by omega) b1
  obtain ⟨_,_,p3,p4,_,_,_,m8⟩:=move_pos b1 (by omega)
  obtain ⟨_,_,_,q4,_,_⟩:=good_step hx hg b1
  have hfew:=hx.few
  have hp:=hx.pairs
  rw [if_pos b2] at q4
  have e1:(x.move s j).1.car=s.car:=by rw [m8];rfl
  have e2:(x.move s j).1.first=j:=by rw [m8];show (if s.spot=0 then j else s.first)=j;rw [if_pos hsp]
  have e3:(x.move s j).1.spot≠0:=by rw [m8];show j≠0;omega
  have hg0:x.car0.gone=0:=rfl
  obtain ⟨n,rfl⟩:∃n:Nat,j=n:=⟨j.toNat,by omega⟩
  have hbit:∀i,(x.move s (n:Int)).1.must.testBit i=(s.must.testBit i||decide (n=i)):=fun i=>by rw [q4,with_bit (by omega)]
  obtain ⟨s',c1,k',g1,g2,g3,g4,g5,g6,g7⟩:=route_fwd hx hm r _ _ _ v2 e3 (by rw [e1];exact hc) hrun hnd.2 (fun i hi=>by
   rw [hbit,hdis i (List.mem_cons_of_mem _ hi)]
   have:¬n=i:=by rintro rfl;exact hnd.1 hi
   simp [this])
  refine ⟨s',c1,k',g1,g2,by rw [g3,e1],by rw [g4,e2],by rw [g5];exact hrun,by rw [htm,g5],fun i i1 i2=>?_,fun path d hw=>?_⟩
  ·rw [g6 i i1 i2,hbit,Bool.or_assoc]
   congr 1
   rw [Bool.eq_iff_iff]
   simp only [Bool.or_eq_true,decide_eq_true_eq,List.mem_cons]
   constructor
   ·rintro (rfl | h)
    ·exact .inl rfl
    ·exact .inr h
   ·rintro (h | h)
    ·exact .inl (by omega)
    ·exact .inr h
  ·refine ⟨b1,_,g7 path d hw,?_⟩
   omega
theorem homeC_ok {x:Inst} {c:Car} (h:(x.homeC c).2=0):c.on=0∧c.now+far (x.stop c.spot) (x.stop 0)≤(x.stop 0).due∧(x.homeC c).1.gone=c.gone+far (x.stop c.spot) (x.stop 0):=by
 rw [Inst.homeC] at h ⊢
 by_cases c1:c.on=0
 ·rw [if_neg (by simp [c1])] at h ⊢
  by_cases c2:(x.stop 0).due<c.now+far (x.stop c.spot) (x.stop 0)
  ·rw [if_pos c2] at h;cases h
  ·rw [if_neg c2]
   exact ⟨c1,by omega,rfl⟩
 ·rw [if_pos c1] at h;cases h
theorem Sim1.mayB {x:Inst} {p m0 k:Nat} {s:State} {c:Car} (hx:x.Fit p) (h:Sim1 x p m0 s c k) (hcar:1≤s.car∧s.car≤x.cars):s.mayB x=true:=by
 have hp:=hx.pairs
 have hsum:=sumOn_pos hx s.on p (Nat.le_refl _)
 have h1:=h.fit.spot
 have h2:=h.fit.now
 have h3:=h.good.load
 have h4:=h.good.room
 have h5:=hx.room
 have h6:=h.spot
 have h7:=h.now
 simp only [State.mayB,Bool.and_eq_true,decide_eq_true_eq]
 omega
theorem upto_only:∀(k:Nat) {i:Nat},(uptoL k).testBit i=true→1≤i∧i≤k
 |0,i,h=>by simp [uptoL] at h
 |k+1,i,h=>by
  rw [uptoL,Nat.testBit_or,Bool.or_eq_true] at h
  rcases h with h | h
  ·have:=upto_only k h;omega
  ·rw [Nat.testBit_two_pow] at h
   have:k+1=i:=by simpa using h
   omega
theorem allB_of {x:Inst} {p t:Nat} (hx:x.Fit p) (h:∀i,1≤i→i≤2*p→t.testBit i=true):x.allB t=true:=by
 rw [Inst.allB,withinB,List.all_eq_true]
 intro i hi
 have hp:=hx.pairs
 have hfew:=hx.few
 have hu:(uptoN (2*x.pairs)).testBit i=true→t.testBit i=true:=fun hb=>by
  unfold uptoN at hb
  have:=upto_only _ hb
  exact h i this.1 (by omega)
 cases hb:(uptoN (2*x.pairs)).testBit i with
 |false=>rfl
 |true=>rw [hu hb];rfl
theorem yard_fwd {x:Inst} {p:Nat} (hx:x.Fit p) (hm:x.may=true) (h0:x.pairs≠0):∀(rs:List (List Int)) (r:List Int) (s:State),s.spot=0→s.on=0→s.load=0→s.time=(x.stop 0).ready→Good x p s→1≤s.car→s.car+rs.length≤x.cars→(∀q∈r :: rs,q≠[]∧(x.times q).2.2=0)→(r :: rs).flatten.Nodup→
  (∀i:Nat,(i:Int)∈(r :: rs).flatten→s.must.testBit i=false)→(∀i:Nat,1≤i→i≤2*p→s.must.testBit i=true∨(i:Int)∈(r :: rs).flatten)→s.first<headI r→(r :: rs).Pairwise (fun a b=>headI a<headI b)→∃path,x.way path s (x.gones (r :: rs)):=by
 intro rs
 induction rs with
 |nil=>
  intro r s hsp hon hld hti hg hc1 hc2 heach hnd hdis hall hfi hpw
  obtain ⟨e1,e2⟩:=heach r List.mem_cons_self
  simp only [List.flatten_cons,List.flatten_nil,List.append_nil] at hnd hdis hall
  obtain ⟨s',c1,k',g1,g2,g3,g4,g5,g6,g7,g8⟩:=route_first hx hm hsp hon hld hti hg ⟨hc1,by simp only [List.length_nil] at hc2;omega⟩ e1 e2 hnd hdis hfi
  obtain ⟨a1,a2,a3⟩:=homeC_ok g5
  have hend:x.endS s'=(far (x.stop s'.spot) (x.stop 0),true):=by
   rw [Inst.endS,if_neg (by simp [hm]),if_neg (fun h=>h0 h.1),if_pos]
   refine ⟨g1.mayB hx (by rw [g3];simp only [List.length_nil] at hc2;omega),g2,by rw [←g1.on];exact a1,allB_of hx fun i i1 i2=>?_,by rw [←g1.now,←g1.spot];exact a2⟩
   rw [g1.good.eq,g7 i i1 i2]
   rcases hall i i1 i2 with h | h
   ·rw [h];rfl
   ·simp [h]
  have hw:=g8 [] _ (show x.way [] s' (far (x.stop s'.spot) (x.stop 0)) from ⟨by rw [hend],by rw [hend]⟩)
  refine ⟨r++[],?_⟩
  rw [Inst.gones,Inst.gones,g6,a3,g1.spot,Int.add_zero]
  exact hw
 |cons r2 rs ih=>
  intro r s hsp hon hld hti hg hc1 hc2 heach hnd hdis hall hfi hpw
  obtain ⟨e1,e2⟩:=heach r List.mem_cons_self
  rw [List.flatten_cons] at hnd hdis hall
  rw [List.length_cons] at hc2
  obtain ⟨n1,n2,n3⟩:=List.nodup_append.1 hnd
  obtain ⟨s',c1,k',g1,g2,g3,g4,g5,g6,g7,g8⟩:=route_first hx hm hsp hon hld hti hg ⟨hc1,by omega⟩ e1 e2 n1 (fun i hi=>hdis i (List.mem_append_left _ hi)) hfi
  obtain ⟨a1,a2,a3⟩:=homeC_ok g5
  rw [List.pairwise_cons] at hpw
  obtain ⟨e3,e4⟩:=heach r2 (by simp)
  have hr2:=times_ok hx hm e4
  obtain ⟨j2,hj2⟩:∃j2,j2∈r2:=List.exists_mem_of_ne_nil _ e3
  have hp:=hx.pairs
  have hfew:=hx.few
  have hmay:=g1.mayB hx (by rw [g3];omega)
  have hstay:x.stayB s'=false:=by
   simp only [Inst.stayB,Bool.or_eq_false_iff,decide_eq_false_iff_not]
   refine ⟨⟨⟨⟨g2,by rw [←g1.on,a1];simp⟩,by rw [g3];omega⟩,?_⟩,by rw [←g1.now,←g1.spot];omega⟩
   cases hq:x.allB s'.must with
   |false=>rfl
   |true=>
    exfalso
    obtain ⟨i,rfl⟩:∃i:Nat,j2=i:=⟨j2.toNat,by have:=hr2.1 j2 hj2;omega⟩
    have hi:=hr2.1 _ hj2
    have h1:=Inst.all_bit hx hq (i:=i) (by omega) (by omega)
    have hmem:(i:Int)∈(r2 :: rs).flatten:=by rw [List.flatten_cons];exact List.mem_append_left _ hj2
    rw [g7 i (by omega) (by omega),hdis i (List.mem_append_right _ hmem),Bool.false_or,decide_eq_true_eq] at h1
    exact n3 _ h1 _ hmem rfl
  have hto:x.to s' 0=(x.homeS s',true):=by rw [Inst.to,if_pos rfl,Inst.home,if_neg (by rw [hstay];simp)]
  have hmv:=move_mk (j:=0) hm hmay (by omega) (by rw [hto])
  rw [hto] at hmv
  have hmv1:(x.move s' 0).2.2=true:=by rw [hmv]
  have hgood:=(good_step hx g1.good hmv1).1
  rw [hmv] at hgood
  obtain ⟨path,hpath⟩:=ih r2 (x.homeS s') rfl (by show s'.on=0;rw [←g1.on];exact a1) rfl rfl hgood (by show 1≤s'.car+1;omega) (by show s'.car+1+(rs.length:Int)≤x.cars;rw [g3];omega) (fun q hq=>heach q (List.mem_cons_of_mem _ hq)) n2
   (fun i hi=>by
    show s'.must.testBit i=false
    have hi2:1≤i∧i≤2*p:=by
     obtain ⟨q,hq,hiq⟩:=List.mem_flatten.1 hi
     have:=(times_ok hx hm (heach q (List.mem_cons_of_mem _ hq)).2).1 _ hiq
     omega
    rw [g7 i hi2.1 hi2.2,hdis i (List.mem_append_right _ hi),Bool.false_or]
    exact decide_eq_false fun h=>n3 _ h _ hi rfl)
   (fun i i1 i2=>by
    show s'.must.testBit i=true∨_
    rw [g7 i i1 i2]
    rcases hall i i1 i2 with h | h
    ·exact .inl (by rw [h];rfl)
    ·rcases List.mem_append.1 h with h | h
     ·exact .inl (by simp [h])
     ·exact .inr h)
   (by show s'.first<headI r2;rw [g4];exact hpw.1 r2 (by simp)) hpw.2
  have hw:=g8 (0 :: path) _ (show x.way (0 :: path) s' (far (x.stop s'.spot) (x.stop 0)+x.gones (r2 :: rs)) from ⟨hmv1,_,by rw [hmv];exact hpath,by rw [hmv]⟩)
  refine ⟨r++0 :: path,?_⟩
  rw [Inst.gones,g6,a3,g1.spot]
  have e:c1.gone+far (x.stop s'.spot) (x.stop 0)+x.gones (r2 :: rs)=c1.gone+(far (x.stop s'.spot) (x.stop 0)+x.gones (r2 :: rs)):=by omega
  rw [e]
  exact hw
theorem plan_way {x:Inst} (hm:x.may=true) {rs:List (List Int)} {c:Int} (h:x.cost rs=(c,0)):∃path,x.way path x.rootS c:=by
 obtain ⟨p,hx⟩:=x.fit hm
 have hp:=hx.pairs
 have hroot:x.rootS={State.zero with car:=1,time:=(x.stop 0).ready}:=by rw [Inst.rootS,if_pos hm]
 obtain ⟨hok,rfl⟩:=cost_ok hx hm h
 by_cases h0:x.pairs=0
 ·have hn:rs=[]:=by
   cases rs with
   |nil=>rfl
   |cons r rs=>
    obtain ⟨e1,e2⟩:=hok.each r List.mem_cons_self
    obtain ⟨j,hj⟩:=List.exists_mem_of_ne_nil _ e1
    have:=(times_ok hx hm e2).1 j hj
    omega
  subst hn
  refine ⟨[],?_,?_⟩
  ·rw [Inst.endS,if_neg (by simp [hm]),if_pos ⟨h0,rfl⟩]
  ·rw [Inst.endS,if_neg (by simp [hm]),if_pos ⟨h0,rfl⟩];rfl
 ·obtain ⟨qs,hqs⟩:∃qs,qs=rs.mergeSort (fun a b=>decide (headI a≤headI b)):=⟨_,rfl⟩
  have hperm:rs.Perm qs:=by rw [hqs];exact (List.mergeSort_perm _ _).symm
  have hsort:qs.Pairwise fun a b=>decide (headI a≤headI b)=true:=by
   rw [hqs]
   refine List.pairwise_mergeSort (fun a b c h1 h2=>?_) (fun a b=>?_) rs
   ·simp only [decide_eq_true_eq] at *;omega
   ·simp only [Bool.or_eq_true,decide_eq_true_eq];omega
  have hok2:=hok.perm hperm
  rw [gones_perm x hperm]
  have hne:qs≠[]:=by
   intro e
   have:=hok2.all 1 (Nat.le_refl _) (by omega)
   rw [e] at this
   cases this
  match qs,hne with
  |r :: qs,_=>
   have hhead:∀q∈r :: qs,headI q∈q:=fun q hq=>by
    obtain ⟨e1,_⟩:=hok2.each q hq
    cases q with
    |nil=>exact absurd rfl e1
    |cons j q=>exact List.mem_cons_self
   have hpw:(r :: qs).Pairwise fun a b=>headI a<headI b:=by
    have hnd:=hok2.once
    rw [List.Nodup,List.pairwise_flatten] at hnd
    refine (hsort.and hnd.2).imp_of_mem fun {a b} ha hb h=>?_
    have h1:=h.1
    simp only [decide_eq_true_eq] at h1
    have h2:=h.2 (headI a) (hhead a ha) (headI b) (hhead b hb)
    omega
   obtain ⟨e1,e2⟩:=hok2.each r List.mem_cons_self
   have hpos:=(times_ok hx hm e2).1 _ (hhead r List.mem_cons_self)
   have hcars:=hok2.cars
   rw [List.length_cons] at hcars
   refine yard_fwd hx hm h0 qs r x.rootS (by rw [hroot];rfl) (by rw [hroot];rfl) (by rw [hroot];rfl) (by rw [hroot]) (good_root hx hm) (by rw [hroot];show (1:Int)≤1;omega) (by rw [hroot];show (1:Int)+(qs.length:Int)≤x.cars;omega) hok2.each hok2.once
    (fun i _=>by rw [hroot];exact Nat.zero_testBit i) (fun i i1 i2=>.inr (hok2.all i i1 i2)) (by rw [hroot];show (0:Int)<headI r;omega) hpw
end Go.Proofs.YtackfabapangdaaGreat

set_option maxRecDepth 4000
namespace Go.Proofs.YtackfabapangdaaGreat
open Go Go.Proofs.YtackfabapangdaaGreat.R
theorem every_least {x:Inst} (hm:x.may=true) {k:Int} (hk:k≤infI) (h:∀(w:List Int) (c:Int),x.way w x.rootS c→k≤c):k≤x.everyAll:=by
 by_cases hi:x.everyAll<inf
 ·obtain ⟨w,hw⟩:=every_from x _ x.rootS hi
  exact h w _ hw
 ·have:infI=inf:=rfl
  omega
end Go.Proofs.YtackfabapangdaaGreat

set_option maxRecDepth 4000
namespace Go.Proofs.YtackfabapangdaaGreat
open Go Go.Proofs.YtackfabapangdaaGreat.R
theorem way_few {x:Inst} {v:List Int} {c:Int} (h:x.way v x.rootS c):0≤c∧c<inf:=by
 have h1:=way_in h
 have h2:=way_len h
 have h3:=meas_le x x.rootS
 have:inf=1152921504606846976:=rfl
 omega
end Go.Proofs.YtackfabapangdaaGreat

set_option maxRecDepth 4000
set_option maxHeartbeats 1000000
namespace Go.Proofs.YtackfabapangdaaGreat
open Go Go.Proofs.YtackfabapangdaaGreat.R
structure Rests (x:Inst) (t:List Nat) (p:CPrf) (K:Clm):Prop where
 check:x.checkE p.pf=0
 good:p.good
 cost:(x.costT t).2=0
 claim:K=claimR (x.costT t).1 p.least
theorem check_rests {i t c:List Nat} (hc8:∀x∈c,x<256) (h:¬(checkR i t c).status=5):(parseR i).2=0∧Rests (parseR i).1 t (dec c).1 (checkR i t c):=by
 generalize hK:checkR i t c=K at *
 rw [checkR] at hK
 split at hK
 ·subst hK;exact (h rfl).elim
 ·rename_i c1
  split at hK
  ·subst hK;exact (h rfl).elim
  ·rename_i c2
   split at hK
   ·subst hK;exact (h rfl).elim
   ·rename_i c3
    split at hK
    ·rename_i c4
     exact ⟨Decidable.of_not_not c1,Decidable.of_not_not c3,(dec_once hc8 (Decidable.of_not_not c2)).2,c4,hK.symm⟩
    ·subst hK;exact (h rfl).elim
structure Sound (x:Inst) (t:List Nat) (K:Clm):Prop where
 may:x.may=true
 low:∀(w:List Int) (c:Int),x.way w x.rootS c→K.low≤c
 le:K.low≤K.up
 ink:K.low≤infI
 plan:K.up<inf→¬t=[48,10]∧(planR t).2=0∧(x.cost (planR t).1)=(K.up,0)
 none:¬K.up<inf→t=[48,10]
 st:(K.status=3∧K.low=inf)∨(K.status=2∧K.low=K.up)∨(K.status=4∧K.low<inf)
theorem rests_sound {x:Inst} (hl:x.stops.length<2^31) {t:List Nat} {p:CPrf} {K:Clm} (h:Rests x t p K):Sound x t K:=by
 obtain ⟨h1,h2,h3,rfl⟩:=h
 have hf:=good_fine h2
 obtain ⟨hm,hk,hs⟩:=check_sound hl hf.parts hf.ok h1
 have hpl:p.pf.least=p.least:=rfl
 rw [hpl] at hk hs
 have hi:infI=inf:=rfl
 have hup:∀(u:Int),(u<inf→p.least≤u)→u≤inf→p.least≤u:=fun u g1 g2=>by
  by_cases c:u<inf
  ·exact g1 c
  ·omega
 have key:(x.costT t).1≤inf∧((x.costT t).1<inf→p.least≤(x.costT t).1∧¬t=[48,10]∧(planR t).2=0∧x.cost (planR t).1=((x.costT t).1,0))∧(¬(x.costT t).1<inf→t=[48,10]):=by
  rw [Inst.costT] at h3 ⊢
  by_cases c1:t=[48,10]
  ·rw [if_pos c1]
   exact ⟨Int.le_refl _,fun h=>absurd h (by decide),fun _=>c1⟩
  ·rw [if_neg c1] at h3 ⊢
   by_cases c2:(planR t).2=0
   rotate_left
   ·rw [if_pos c2] at h3
    exact (c2 h3).elim
   ·rw [if_neg (show ¬((planR t).2≠0) from fun h=>h c2)] at h3 ⊢
    have hc:x.cost (planR t).1=((x.cost (planR t).1).1,0):=by rw [←h3]
    obtain ⟨w,hw⟩:=plan_way hm hc
    have hfew:=way_few hw
    exact ⟨Int.le_of_lt hfew.2,fun _=>⟨hs w _ hw,c1,c2,hc⟩,fun h=>absurd hfew.2 h⟩
 obtain ⟨k1,k2,k3⟩:=key
 generalize (x.costT t).1=u at *
 unfold claimR
 split
 ·rename_i c
  have g:=k2 c.1
  have e:p.least=u:=by omega
  exact ⟨hm,fun w c hw=>by have:=hs w c hw;show u≤c;omega,Int.le_refl _,by show u≤infI;omega,fun h=>(k2 h).2,k3,.inr (.inl ⟨rfl,rfl⟩)⟩
 ·rename_i c
  have hlu:p.least≤u:=by
   by_cases cu:u<inf
   ·exact (k2 cu).1
   ·omega
  split
  ·rename_i c2
   exact ⟨hm,hs,hlu,hk,fun h=>(k2 h).2,k3,.inl ⟨rfl,by show p.least=inf;omega⟩⟩
  ·rename_i c2
   exact ⟨hm,hs,hlu,hk,fun h=>(k2 h).2,k3,.inr (.inr ⟨rfl,by show p.least<inf;omega⟩)⟩
theorem lcsound_pure (i t c:List Nat) (g:List (List Int)) (hi:i.length<2^63) (hi8:∀c∈i,c<256) (ht:t.length<2^63) (ht8:∀c∈t,c<256) (hc:c.length<2^63) (hc8:∀x∈c,x<256) (hg:g.length<2^63) (hgr:∀r∈g,r.length<2^63):Pure P 4 [.t (.sl (byt i)),.t (.sl (byt t)),.t (.sl (byt c)),.agg [.t (.sl (g.map rowT))]] (.b true):=by
 refine pure_of Tryz.func4 rfl rfl (by simp [Tryz.f4]) (by simp [bnd,bnd.bndL]) (by simp [bnd,bnd.bndL]) fun B hB hnx=>?_
 simp only [Tryz.f4] at hB ⊢
 have hf:=few22_pure i t c hi hi8
 have h1:=parseB_pure i hi hi8
 have hlen:=parseR_len i
 have h4:=pparse_pure t ht ht8
 obtain ⟨l1,l2⟩:=planR_len t
 have h5:=cost_pure (parseR i).1 (planR t).1 (by omega) (by omega) fun r hr=>by have:=l2 r hr;omega
 have h6:=ccheck_pure i t c hi hi8 ht ht8 hc hc8
 have h2:=cost_pure (parseR i).1 g (by omega) hg hgr
 have hsound:¬(checkR i t c).status=5→(parseR i).2=0∧Sound (parseR i).1 t (checkR i t c):=fun h=>by
  obtain ⟨r1,r2⟩:=check_rests hc8 h
  exact ⟨r1,rests_sound (by omega) r2⟩
 clear l1 l2 hlen
 generalize few22 i t c=fw at *
 generalize checkR i t c=K at *
 generalize (parseR i).1=x at *
 generalize (parseR i).2=e at *
 refine K_run hB 100 ?_
 simp [go_sem]
 refine K_call rfl rfl rfl (args:=[]) (f:=15) (by simp [go_sem]) (by simp [go_sem,hB]) ((awake22_pure).spec _ _) ?_
 refine K_run hB 100 ?_
 simp [go_sem]
 refine K_call rfl rfl rfl (args:=[.t (.sl (byt i)),.t (.sl (byt t)),.t (.sl (byt c))]) (f:=16) (by simp [go_sem]) (by simp [go_sem,hB]) ((hf).spec _ _) ?_
 refine K_run hB 100 ?_
 simp [go_sem]
 refine K_call rfl rfl rfl (args:=[.t (.sl (byt i)),.t (.sl (byt t)),.t (.sl (byt c))]) (f:=17) (by simp [go_sem]) (by simp [go_sem,hB]) ((h6).spec _ _) ?_
 cases fw with
 |false=>
  refine K_run hB 100 ?_
  simp [go_sem,Clm.a,Clm.cs]
 |true=>
  by_cases c0:K.status=5
  ·refine K_run hB 100 ?_
   simp [go_sem,Clm.a,Clm.cs,c0]
  obtain ⟨rfl,s1,s2,s3,s4,s5,s6,s7⟩:=hsound c0
  clear hsound
  have hev:=everyAll_pure x s1
  have q2:=every_least s1 s4 s2
  have q1:∀n,x.cost g=(n,0)→K.low≤n∧n<inf:=fun n h=>by
   obtain ⟨w,hw⟩:=plan_way s1 h
   exact ⟨s2 w n hw,(way_few hw).2⟩
  have hi':inf=1152921504606846976:=rfl
  rw [hi'] at q1 s5 s6 s7
  have hsl:(x.stops.map Stop.t).length=x.stops.length:=List.length_map _
  generalize x.everyAll=E at *
  generalize hC:x.cost g=C at *
  obtain ⟨n,f⟩:=C
  refine K_run hB 100 ?_
  simp [go_sem,Clm.a,Clm.cs,c0]
  refine K_call rfl rfl rfl (args:=[.t (.sl (byt i))]) (f:=21) (by simp [go_sem]) (by simp [go_sem,hB]) ((h1).spec _ _) ?_
  refine K_run hB 100 ?_
  simp [go_sem,Inst.a]
  refine K_call rfl rfl rfl (args:=[x.a,.agg [.t (.sl (g.map rowT))]]) (f:=22) (by simp [go_sem,Inst.a]) (by simp [go_sem,hB]) ((h2).spec _ _) ?_
  have d1:¬K.up<K.low:=by omega
  have d2:¬E<K.low:=by omega
  have q3:f=0→K.low≤n∧n<1152921504606846976:=fun h=>q1 n (by rw [h])
  by_cases c5:f=0
  case' pos=>
   have d3:¬n<K.low:=by have:=q3 c5;omega
   refine K_run hB 100 ?_
   simp [go_sem,d1,c5,d3]
  case' neg=>
   refine K_run hB 100 ?_
   simp [go_sem,d1,c5]
  all_goals
   by_cases cU:K.up<1152921504606846976
   case' pos=>
    obtain ⟨u1,u2,u3⟩:=s5 cU
    rw [u3] at h5
    simp [go_sem,cU]
    refine K_call rfl rfl rfl (args:=[.t (.sl (byt t))]) (f:=23) (by simp [go_sem]) (by simp [go_sem,hB]) ((h4).spec _ _) ?_
    refine K_run hB 100 ?_
    simp [go_sem,Inst.a,u2]
    refine K_call rfl rfl rfl (args:=[x.a,.agg [.t (.sl ((planR t).1.map rowT))]]) (f:=22) (by simp [go_sem,Inst.a]) (by simp [go_sem,hB]) ((h5).spec _ _) ?_
    refine K_run hB 100 ?_
    simp [go_sem,u2]
   case' neg=>
    have u1:=s6 cU
    have cn2:t.map UInt8.ofNat=[48,10]:=by rw [u1];rfl
    simp [go_sem,cU]
    refine K_drawn [] rfl (by rw [hB];kernel_rfl) ?_
    refine K_run hB 100 ?_
    simp [go_sem,unbytes_byt]
    refine K_dCallP rfl rfl rfl (args:=[]) (f:=19) (by simp [go_sem]) (noplan_pure) ?_
    refine K_run hB 100 ?_
    simp [go_sem,unbytes_byt,cn2]
  all_goals
   refine K_drawn [] rfl (by rw [hB];kernel_rfl) ?_
   by_cases c6:(x.stops.length:Int)≤5
   case' pos=>
    refine K_run hB 100 ?_
    simp [go_sem,hsl,c6]
    refine K_dCallP rfl rfl rfl (args:=[x.a]) (f:=24) (by simp [go_sem,Inst.a]) (hev) ?_
    refine K_run hB 100 ?_
    simp [go_sem,d2]
   case' neg=>
    refine K_run hB 100 ?_
    simp [go_sem,hsl,c6]
  all_goals
   by_cases t3:K.status=3
   case' pos=>
    have t4:K.low=1152921504606846976:=by rcases s7 with ⟨a,b⟩ | ⟨a,b⟩ | ⟨a,b⟩<;>omega
    first
    |(exfalso;have:=q3 c5;omega)
    |simp [go_sem,t3,t4,c5]
   case' neg=>
    by_cases t2:K.status=2
    case' pos=>
     have t4:K.low=K.up:=by rcases s7 with ⟨a,b⟩ | ⟨a,b⟩ | ⟨a,b⟩<;>omega
     simp [go_sem,t3,t2,t4]
    case' neg=>
     have t4:K.status=4∧K.low<1152921504606846976:=by rcases s7 with ⟨a,b⟩ | ⟨a,b⟩ | ⟨a,b⟩<;>omega
     simp [go_sem,t3,t2,t4.1,t4.2]
end Go.Proofs.YtackfabapangdaaGreat
