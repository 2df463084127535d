/- Parts of the proof: Law23c, NotesP, Law23d. -/
import Derived.Test.YtnoifgjiipgpoaaGreatDoorMJ
set_option linter.all false
set_option maxHeartbeats 4000000
set_option maxRecDepth 4000
set_option maxHeartbeats 1000000
namespace Go.Proofs.YtnoifgjiipgpoaaGreatDoor
open Go Go.Proofs.YtnoifgjiipgpoaaGreatDoor.R
abbrev cmpS:AV:=.fn (.func 55) [] []
theorem eqrow_pure (a:List Int) (ha:a.length<2^62):Pure P 55 [.t (.sl (ints a)),.t (.sl (ints a))] (.b true):=by
 have he:=eqints_pure a a ha ha
 rw [decide_eq_true rfl] at he
 refine pure_of Tryz.func55 rfl rfl (by simp [Tryz.f55]) (by simp [bnd,bnd.bndL]) (by simp [bnd,bnd.bndL]) fun B hB hnx=>?_
 simp only [Tryz.f55] at hB ⊢
 refine K_run hB 100 ?_
 simp [go_sem]
 refine K_call rfl rfl rfl (args:=[.t (.sl (ints a)),.t (.sl (ints a))]) (f:=56) (by simp [go_sem]) (by simp [go_sem,hB]) ((he).spec _ _) ?_
 refine K_run hB 100 ?_
 simp [go_sem]
theorem eqrows_pure (l:List (List Int)) (hl:l.length<2^31) (hr:∀r∈l,r.length<2^62):Pure P 53 [.t (.sl (l.map rowT)),.t (.sl (l.map rowT)),cmpS] (.b true):=by
 refine pure_of Tryz.func53 rfl rfl (by simp [Tryz.f53]) (by simp [bnd,bnd.bndL]) (by simp [bnd,bnd.bndL]) fun B hB hnx=>?_
 simp only [Tryz.f53] at hB ⊢
 have hll:(l.map rowT).length=l.length:=List.length_map _
 refine K_run hB 100 ?_
 simp [go_sem,hll]
 refine K_loopP (α:=Nat) (fun k=>k≤l.length) (fun k=>⟨sl [(0,.t (.sl (l.map rowT))),(1,.t (.sl (l.map rowT))),(2,cmpS),(15,.t (.sl (l.map rowT))),(16,.i l.length),(17,.i k)],_,_⟩) (fun k=>l.length-k) 0 (Nat.zero_le _) (Imp.slots (by simp [go_sem]) rfl rfl) ?_
 rintro k g
 by_cases hk:k<l.length
 ·have hkk:IntKind.i64.wrap ((k:Int)+1)=((k+1:Nat):Int):=by rw [w64 ((k:Int)+1) (by omega)];rfl
  have hget:∀h,(l.map rowT)[k]'h=rowT l[k]:=fun h=>by simp
  have he:=eqrow_pure l[k] (hr _ (List.getElem_mem _))
  generalize l[k]=r at *
  refine K_run hB 60 ?_
  simp [go_sem,hll,hk,hget,rowT]
  refine K_call rfl rfl rfl (args:=[.t (.sl (ints r)),.t (.sl (ints r))]) (f:=55) (by simp [go_sem]) (by simp [go_sem,hB]) ((he).spec _ _) ?_
  refine K_run hB 60 ?_
  simp [go_sem,hkk]
  exact Next.mk (k+1) hk (Imp.slots (by simp [go_sem]) rfl rfl) (by omega)
 ·have:k=l.length:=by omega
  subst this
  refine K_run hB 60 ?_
  simp [go_sem]
theorem plsame_pure (l m:List (List Int)) (h:sortR l=sortR m) (hl:l.length<20) (hr:∀r∈l,r.length<4294967296) (hm:m.length<20) (hs:∀r∈m,r.length<4294967296):Pure P 21 [.agg [.t (.sl (l.map rowT))],.agg [.t (.sl (m.map rowT))]] (.b true):=by
 have h1:=psorted_pure l (by omega) hr (Nat.lt_of_le_of_lt (List.length_filter_le _ _) hl)
 have h2:=psorted_pure m (by omega) hs (Nat.lt_of_le_of_lt (List.length_filter_le _ _) hm)
 have h3:=eqrows_pure (sortR l) (by have:=sortR_len l;omega) fun r hr'=>by have:=hr r (sortR_mem.1 hr').1;omega
 rw [←h] at h2
 generalize sortR l=S at *
 refine pure_of Tryz.func21 rfl rfl (by simp [Tryz.f21]) (by simp [bnd,bnd.bndL]) (by simp [bnd,bnd.bndL]) fun B hB hnx=>?_
 simp only [Tryz.f21] at hB ⊢
 refine K_run hB 100 ?_
 simp [go_sem]
 refine K_drawn [] rfl (by rw [hB];kernel_rfl) ?_
 refine K_run hB 100 ?_
 simp [go_sem]
 refine K_dCallP rfl rfl rfl (args:=[.agg [.t (.sl (l.map rowT))]]) (f:=54) (by simp [go_sem]) (h1) ?_
 refine K_run hB 100 ?_
 simp [go_sem]
 refine K_dCallP rfl rfl rfl (args:=[.agg [.t (.sl (m.map rowT))]]) (f:=54) (by simp [go_sem]) (h2) ?_
 refine K_run hB 100 ?_
 simp [go_sem]
 refine K_dCallP rfl rfl rfl (args:=[.t (.sl (S.map rowT)),.t (.sl (S.map rowT)),cmpS]) (f:=53) (by simp [go_sem]) (h3) ?_
 refine K_run hB 100 ?_
 simp [go_sem]
theorem asame_pure (a:Ans):Pure P 13 [a.a,a.a] (.b true):=by
 refine pure_of Tryz.func13 rfl rfl (by simp [Tryz.f13]) (by simp [bnd,bnd.bndL,Ans.a,Ans.cs]) (by simp [bnd,bnd.bndL]) fun B hB hnx=>?_
 simp only [Tryz.f13] at hB ⊢
 refine K_run hB 100 ?_
 simp [go_sem,Ans.a,Ans.cs,unbytes_byt]
theorem lstext_pure (i o:List Nat) (hi:i.length<2^63) (hi8:∀c∈i,c<256) (ho:o.length<2^63) (ho8:∀c∈o,c<256):Pure P 6 [.t (.sl (byt i)),.t (.sl (byt o))] (.b true):=by
 refine pure_of Tryz.func6 rfl rfl (by simp [Tryz.f6]) (by simp [bnd,bnd.bndL]) (by simp [bnd,bnd.bndL]) fun B hB hnx=>?_
 simp only [Tryz.f6] at hB ⊢
 have hf:=few23_pure i o hi hi8 ho ho8
 have h1:=parseB_pure i hi hi8
 have h2:=oparse_pure o ho ho8
 refine K_run hB 100 ?_
 simp [go_sem]
 refine K_call rfl rfl rfl (args:=[]) (f:=11) (by simp [go_sem]) (by simp [go_sem,hB]) ((awake23_pure).spec _ _) ?_
 refine K_run hB 100 ?_
 simp [go_sem]
 refine K_call rfl rfl rfl (args:=[.t (.sl (byt i)),.t (.sl (byt o))]) (f:=12) (by simp [go_sem]) (by simp [go_sem,hB]) ((hf).spec _ _) ?_
 refine K_run hB 100 ?_
 simp [go_sem]
 refine K_call rfl rfl rfl (args:=[.t (.sl (byt i))]) (f:=16) (by simp [go_sem]) (by simp [go_sem,hB]) ((h1).spec _ _) ?_
 refine K_run hB 100 ?_
 simp [go_sem,Inst.a]
 refine K_call rfl rfl rfl (args:=[.t (.sl (byt o))]) (f:=17) (by simp [go_sem]) (by simp [go_sem,hB]) ((h2).spec _ _) ?_
 cases cf:few23 i o with
 |false=>
  refine K_run hB 100 ?_
  simp [go_sem,Opt.a,Opt.cs]
 |true=>
  obtain ⟨c1,c2⟩:=few23_is cf
  have hs:=solve_pure i o hi hi8 ho ho8 c1 c2
  have hr:=srun_pure (parseR i).1 (optsR o).1 c1 c2
  by_cases e:(parseR i).2=0
  rotate_left
  ·refine K_run hB 100 ?_
   simp [go_sem,Opt.a,Opt.cs,e]
  by_cases f:(optsR o).2=0
  rotate_left
  ·refine K_run hB 100 ?_
   simp [go_sem,Opt.a,Opt.cs,e,f]
  have hm:=parseR_may i e
  have htd:=search_told c1 hm (optsR_may o f) c2
  have hsh:=ans_short e f c1 c2
  have hsm:=asame_pure (solveR i o)
  rw [solveR_ans e f] at hs hsh hsm
  generalize hx:(parseR i).1=x at *
  generalize hp:(optsR o).1=p at *
  generalize hR:x.search p=R at *
  have ha1:(x.ans R (noAns 1)).status=R.status:=rfl
  have ha2:(x.ans R (noAns 1)).low=R.low:=rfl
  have ha3:(x.ans R (noAns 1)).up=R.up:=rfl
  have hinf:inf=1152921504606846976:=rfl
  have htx:(x.ans R (noAns 1)).text=if R.up<inf then printB (sortR R.plan) else noPlan:=rfl
  generalize x.ans R (noAns 1)=A at *
  have hA:A.a= .agg [.i R.status,.t (.sl (byt A.text)),.i R.low,.i R.up,.t (.sl (byt A.cert))]:=by rw [Ans.a,Ans.cs,ha1,ha2,ha3]
  rw [hA] at hs hsm
  refine K_run hB 100 ?_
  simp [go_sem,Opt.a,Opt.cs,e,f]
  refine K_call rfl rfl rfl (args:=[.t (.sl (byt i)),.t (.sl (byt o))]) (f:=14) (by simp [go_sem]) (by simp [go_sem,hB]) ((hs).spec _ _) ?_
  refine K_run hB 100 ?_
  simp [go_sem]
  refine K_call rfl rfl rfl (args:=[.t (.sl (byt i)),.t (.sl (byt o))]) (f:=14) (by simp [go_sem]) (by simp [go_sem,hB]) ((hs).spec _ _) ?_
  refine K_run hB 100 ?_
  simp [go_sem]
  refine K_call rfl rfl rfl (args:=[x.a,p.a]) (f:=18) (by simp [go_sem,Inst.a,Opt.a,Opt.cs]) (by simp [go_sem,hB]) ((hr).spec _ _) ?_
  refine K_run hB 100 ?_
  simp [go_sem,SRes.a]
  refine K_call rfl rfl rfl (args:=[.agg [.i R.status,.t (.sl (byt A.text)),.i R.low,.i R.up,.t (.sl (byt A.cert))],.agg [.i R.status,.t (.sl (byt A.text)),.i R.low,.i R.up,.t (.sl (byt A.cert))]]) (f:=13) (by simp [go_sem]) (by simp [go_sem,hB]) ((hsm).spec _ _) ?_
  by_cases c:R.up<inf
  rotate_left
  ·rw [if_neg c] at htx
   have hu:R.up=1152921504606846976:=by have:=htd.le;omega
   rw [htx]
   refine K_run hB 100 ?_
   simp [go_sem,hu]
   refine K_drawn [] rfl (by rw [hB];kernel_rfl) ?_
   refine K_run hB 100 ?_
   simp [go_sem,unbytes_byt]
   refine K_dCallP rfl rfl rfl (args:=[]) (f:=19) (by simp [go_sem]) (noplan_pure) ?_
   refine K_run hB 100 ?_
   simp [go_sem,unbytes_byt,noPlan]
  ·rw [if_pos c] at htx
   obtain ⟨hD,hn⟩:=plan_digits c1 hm (htd.plan c)
   obtain ⟨ht,_⟩:=plan_text c1 hm (htd.plan c)
   have hu:¬R.up=1152921504606846976:=by omega
   have hpp:=pparse_pure A.text (by have:=hsh.text;omega) hsh.text8
   rw [htx,ht] at hpp
   have hrl:∀r∈R.plan,r.length<4294967296:=fun r hr=>by have:=(hD.row r hr).1;omega
   have hsl:=sortR_len R.plan
   have hps:Pure P 21 [.agg [.t (.sl ((sortR R.plan).map rowT))],.agg [.t (.sl (planT R.plan))]] (.b true):=plsame_pure (sortR R.plan) R.plan sortR_idem (by omega) (fun r hr=>hrl r (sortR_mem.1 hr).1) hn hrl
   rw [htx]
   generalize sortR R.plan=S at *
   refine K_run hB 100 ?_
   simp [go_sem,hu]
   refine K_call rfl rfl rfl (args:=[.t (.sl (byt (printB S)))]) (f:=20) (by simp [go_sem]) (by simp [go_sem,hB]) ((hpp).spec _ _) ?_
   refine K_run hB 100 ?_
   simp [go_sem]
   refine K_call rfl rfl rfl (args:=[.agg [.t (.sl (S.map rowT))],.agg [.t (.sl (planT R.plan))]]) (f:=21) (by simp [go_sem]) (by simp [go_sem,hB]) ((hps).spec _ _) ?_
   refine K_run hB 100 ?_
   simp [go_sem]
end Go.Proofs.YtnoifgjiipgpoaaGreatDoor

set_option maxRecDepth 4000
namespace Go.Proofs.YtnoifgjiipgpoaaGreatDoor
open Go Go.Proofs.YtnoifgjiipgpoaaGreatDoor.R
def note1 (c:Nat):List Nat:=if c=10 then [32,35,32,110,111,116,101,10] else if c=32 then [32,32] else [c]
def noteB (b:List Nat):List Nat:=b.flatMap note1
def dblB (b:List Nat):List Nat:=b.flatMap fun c=>if c=32 then [32,32] else [c]
theorem rowD_end {t:List Nat} (ht:t=[]∨t=[32,35,32,110,111,116,101]) (out:List Int) (w:List Nat):rowD t out w=wordE out w:=by
 rcases ht with rfl | rfl
 ·rfl
 ·rw [rowD,if_neg (by decide),if_pos rfl]
  cases wordE out w with
  |none=>rfl
  |some o=>
   show rowD [35,32,110,111,116,101] o []=some o
   rw [rowD,if_pos rfl,wordE,if_pos rfl]
theorem rowD_dbl {t:List Nat} (ht:t=[]∨t=[32,35,32,110,111,116,101]):∀(r:List Nat) (out:List Int) (w:List Nat),rowD (dblB r++t) out w=rowD r out w
 |[],out,w=>rowD_end ht out w
 |c :: r,out,w=>by
  have ih:=rowD_dbl ht r
  by_cases c1:c=35
  ·subst c1
   show rowD (35 :: (dblB r++t)) out w=_
   rw [rowD,if_pos rfl,rowD,if_pos rfl]
  ·by_cases c2:c=32
   ·subst c2
    show rowD (32 :: 32 :: (dblB r++t)) out w=_
    rw [rowD,if_neg c1,if_pos rfl,rowD,if_neg c1,if_pos rfl]
    congr 1
    funext o
    rw [rowD,if_neg c1,if_pos rfl,wordE,if_pos rfl,Option.bind_some,ih]
   ·have:dblB (c :: r)++t=c :: (dblB r++t):=by simp [dblB,c2]
    rw [this,rowD,if_neg c1,if_neg c2,rowD,if_neg c1,if_neg c2,ih]
theorem rowE_dbl {t:List Nat} (ht:t=[]∨t=[32,35,32,110,111,116,101]) (r:List Nat) (out:List (List Int)):rowE out (dblB r++t)=rowE out r:=by
 rw [rowE,rowD_dbl ht,rowE]
theorem segsD_note:∀(b:List Nat) (o:List (List Int)) (v:List Nat),segsD (noteB b) o (dblB v)=segsD b o v
 |[],o,v=>by
  have:=rowE_dbl (.inl rfl) v o
  rw [List.append_nil] at this
  exact this
 |c :: b,o,v=>by
  have ih:=segsD_note b
  have hd:∀c,¬c=10→dblB (v++[c])=dblB v++note1 c:=fun c h=>by
   simp only [dblB,List.flatMap_append,List.flatMap_cons,List.flatMap_nil,List.append_nil,note1,if_neg h]
  by_cases c1:c=10
  ·subst c1
   have e:noteB (10 :: b)=[32,35,32,110,111,116,101]++(10 :: noteB b):=rfl
   rw [e,segsD_line _ _ _ _ (by decide),segsD,if_pos rfl,rowE_dbl (.inr rfl),segsD,if_pos rfl]
   congr 1
   funext o
   exact ih o []
  ·have e:noteB (c :: b)=note1 c++noteB b:=rfl
   rw [e,segsD_line _ _ _ _ (by
    unfold note1
    rw [if_neg c1]
    split
    ·decide
    ·intro d hd
     rw [List.mem_singleton.1 hd]
     exact c1),←hd c c1,ih,segsD,if_neg c1]
theorem lines_note {b:List Nat} (h1:b.length≤4096) (h2:(noteB b).length≤4096):linesR (noteB b)=linesR b:=by
 have:=segsD_note b [] []
 rw [←linesD_is,←linesD_is,linesD,linesD,if_neg (by omega),if_neg (by omega)]
 rw [show segsD (noteB b) [] []=segsD b [] [] from this]
theorem parse_note {b:List Nat} (h1:b.length≤4096) (h2:(noteB b).length≤4096):parseR (noteB b)=parseR b:=by
 rw [parseR,parseR,lines_note h1 h2]
theorem note_snoc (b:List Nat) {k:Nat} (h:k<b.length):noteB (b.take (k+1))=noteB (b.take k)++note1 b[k]:=by
 rw [noteB,List.take_succ_eq_append_getElem h,List.flatMap_append]
 simp [noteB]
theorem note_len:∀(b:List Nat),(noteB b).length≤8*b.length
 |[]=>by simp [noteB]
 |c :: b=>by
  have ih:=note_len b
  have e:noteB (c :: b)=note1 c++noteB b:=rfl
  have h1:(note1 c).length≤8:=by
   unfold note1
   split
   ·decide
   ·split<;>simp
  rw [e,List.length_append,List.length_cons]
  omega
theorem note_byte {b:List Nat} (h:∀c∈b,c<256):∀c∈noteB b,c<256:=by
 intro c hc
 obtain ⟨d,hd,hc⟩:=List.mem_flatMap.1 hc
 have:=h d hd
 unfold note1 at hc
 split at hc
 ·simp only [List.mem_cons,List.not_mem_nil,or_false] at hc
  omega
 ·split at hc
  ·simp only [List.mem_cons,List.not_mem_nil,or_false] at hc
   omega
  ·rw [List.mem_singleton.1 hc]
   exact this
end Go.Proofs.YtnoifgjiipgpoaaGreatDoor

set_option maxRecDepth 4000
set_option maxHeartbeats 1000000
namespace Go.Proofs.YtnoifgjiipgpoaaGreatDoor
open Go Go.Proofs.YtnoifgjiipgpoaaGreatDoor.R
theorem note_lit:bytesT ⟨#[32,35,32,110,111,116,101]⟩=[[.v (.int .u8 32)],[.v (.int .u8 35)],[.v (.int .u8 32)],[.v (.int .u8 110)],[.v (.int .u8 111)],[.v (.int .u8 116)],[.v (.int .u8 101)]]:=rfl
theorem byt_ap (a b:List Nat):byt (a++b)=byt a++b.map fun (c:Nat)=>[.v (.int .u8 (c:Int))]:=by simp [byt]
theorem lsnotes_pure (i o:List Nat) (hi:i.length<2^63) (hi8:∀c∈i,c<256) (ho:o.length<2^63) (ho8:∀c∈o,c<256):Pure P 5 [.t (.sl (byt i)),.t (.sl (byt o))] (.b true):=by
 refine pure_of Tryz.func5 rfl rfl (by simp [Tryz.f5]) (by simp [bnd,bnd.bndL]) (by simp [bnd,bnd.bndL]) fun B hB hnx=>?_
 simp only [Tryz.f5] at hB ⊢
 have hf:=few23_pure i o hi hi8 ho ho8
 refine K_run hB 100 ?_
 simp [go_sem]
 refine K_call rfl rfl rfl (args:=[]) (f:=11) (by simp [go_sem]) (by simp [go_sem,hB]) ((awake23_pure).spec _ _) ?_
 refine K_run hB 100 ?_
 simp [go_sem]
 refine K_call rfl rfl rfl (args:=[.t (.sl (byt i)),.t (.sl (byt o))]) (f:=12) (by simp [go_sem]) (by simp [go_sem,hB]) ((hf).spec _ _) ?_
 cases cf:few23 i o with
 |false=>
  refine K_run hB 100 ?_
  simp [go_sem]
 |true=>
  obtain ⟨c1,c2⟩:=few23_is cf
  have hs:=solve_pure i o hi hi8 ho ho8 c1 c2
  have hsm:=asame_pure (solveR i o)
  by_cases d1:(1000:Int)<i.length
  ·refine K_run hB 100 ?_
   simp [go_sem,byt_len,d1]
  by_cases d2:(1000:Int)<o.length
  ·refine K_run hB 100 ?_
   simp [go_sem,byt_len,d1,d2]
  have hnl:=note_len i
  have ht:(noteB i).length≤4096→Pure P 14 [.t (.sl (byt (noteB i))),.t (.sl (byt o))] (solveR i o).a:=fun h=>by
   have e:=parse_note (b:=i) (by omega) h
   have:=solve_pure (noteB i) o (by omega) (note_byte hi8) ho ho8 (by rw [e];exact c1) c2
   rw [show solveR (noteB i) o=solveR i o by rw [solveR,solveR,e]] at this
   exact this
  refine K_run hB 100 ?_
  simp [go_sem,byt_len,d1,d2]
  refine K_own 7 1 (by simp [go_sem]) ?_
  refine K_loopP (α:=Nat×Nat×(Nat→AObj)×Nat) (fun (k,a,τ,m)=>k≤i.length∧τ a= .arr 1 (byt (noteB (i.take k)))∧a<m) (fun (k,a,τ,m)=>⟨sl [(0,.t (.sl (byt i))),(1,.t (.sl (byt o))),(7,.ref a),(8,.i k)],τ,m⟩) (fun a=>i.length-a.1) (0,0,_,1) ⟨Nat.zero_le _,by simp [oput,noteB,byt],by decide⟩ (Imp.slots (by simp [go_sem]) rfl rfl) ?_
  rintro ⟨k,a,τ,m⟩ ⟨g1,g2,g3⟩
  by_cases hk:k<i.length
  rotate_left
  ·have:k=i.length:=by omega
   subst this
   rw [List.take_length] at g2
   by_cases d3:(4096:Int)<(noteB i).length
   ·refine K_run hB 60 ?_
    simp [go_sem,byt_len,g2,d3]
   have ht:=ht (by omega)
   generalize noteB i=N at *
   generalize (solveR i o).a=A at *
   refine K_run hB 60 ?_
   simp [go_sem,byt_len,g2,d3]
   refine K_imp ((Imp.freeze (q:=a) (sz:=1) (es:=byt N) (by simp [g2])).trans (Imp.slots (l:=[(0,.t (.sl (byt i))),(1,.t (.sl (byt o))),(7,.t (.sl (byt N))),(62,.t (.sl (byt i))),(63,.t (.sl (byt o)))]) (by simp [go_sem,frz1]) rfl rfl)) ?_
   refine K_call rfl rfl rfl (args:=[.t (.sl (byt i)),.t (.sl (byt o))]) (f:=14) (by simp [go_sem]) (by simp [go_sem,hB]) ((hs).spec _ _) ?_
   refine K_run hB 60 ?_
   simp [go_sem]
   refine K_call rfl rfl rfl (args:=[.t (.sl (byt N)),.t (.sl (byt o))]) (f:=14) (by simp [go_sem]) (by simp [go_sem,hB]) ((ht).spec _ _) ?_
   refine K_run hB 60 ?_
   simp [go_sem]
   refine K_call rfl rfl rfl (args:=[A,A]) (f:=13) (by simp [go_sem]) (by simp [go_sem,hB]) ((hsm).spec _ _) ?_
   refine K_run hB 60 ?_
   simp [go_sem]
  have hkk:IntKind.i64.wrap ((k:Int)+1)=((k+1:Nat):Int):=by rw [w64 ((k:Int)+1) (by omega)];rfl
  have hget:∀h,(byt i)[k]'h=[.v (.int .u8 ((i[k]'hk:Nat):Int))]:=fun h=>byt_get i k h
  have hsn:=note_snoc i hk
  have hnk:=note_len (i.take k)
  have htl:(i.take k).length≤1000:=by rw [List.length_take];omega
  have hc8:=hi8 i[k] (List.getElem_mem _)
  generalize noteB (i.take k)=N at *
  have hcap:∀j,j≤20→N.length+j≤mostLen:=fun j hj=>by show _≤4294967296;omega
  have k1:=hcap 1 (by omega)
  have k2:N.length+1+1≤mostLen:=hcap 2 (by omega)
  have k7:=hcap 7 (by omega)
  have k8:N.length+7+1≤mostLen:=hcap 8 (by omega)
  have hone:=byt_one N
  generalize i[k]=c at *
  by_cases e1:c=10
  ·subst e1
   have hb:byt (noteB (i.take (k+1)))=byt N++[[.v (.int .u8 32)],[.v (.int .u8 35)],[.v (.int .u8 32)],[.v (.int .u8 110)],[.v (.int .u8 111)],[.v (.int .u8 116)],[.v (.int .u8 101)],[.v (.int .u8 10)]]:=by
    rw [hsn,byt_ap]
    rfl
   have hbl:(byt N).length=N.length:=List.length_map _
   generalize byt N=rows at *
   refine K_run hB 60 ?_
   simp [go_sem,byt_len,hk,hget,g2,k1,k2,k7,k8,hone,note_lit,hkk,hbl]
   exact Next.mk (k+1,m+1,_,m+2) ⟨by omega,by simp [oput,hb],by simp only;omega⟩ (Imp.slots (by simp [go_sem]) rfl rfl) (by simp only;omega)
  ·by_cases e2:c=32
   ·subst e2
    have hb:byt (noteB (i.take (k+1)))=byt N++[[.v (.int .u8 32)],[.v (.int .u8 32)]]:=by
     rw [hsn,byt_ap]
     rfl
    have hbl:(byt N).length=N.length:=List.length_map _
    generalize byt N=rows at *
    refine K_run hB 60 ?_
    simp [go_sem,byt_len,hk,hget,g2,k1,k2,k7,k8,hone,hkk,hbl]
    exact Next.mk (k+1,m+1,_,m+2) ⟨by omega,by simp [oput,hb],by simp only;omega⟩ (Imp.slots (by simp [go_sem]) rfl rfl) (by simp only;omega)
   ·have hb:byt (noteB (i.take (k+1)))=byt N++[[.v (.int .u8 (c:Int))]]:=by
     rw [hsn,byt_ap,note1,if_neg e1,if_neg e2]
     rfl
    have hbl:(byt N).length=N.length:=List.length_map _
    have f1:¬(c:Int)=10:=by omega
    have f2:¬(c:Int)=32:=by omega
    generalize byt N=rows at *
    refine K_run hB 60 ?_
    simp [go_sem,byt_len,hk,hget,g2,k1,k2,k7,k8,hone,hkk,hbl,f1,f2]
    exact Next.mk (k+1,m,_,m+1) ⟨by omega,by simp [oput,hb],by simp only;omega⟩ (Imp.slots (by simp [go_sem]) rfl rfl) (by simp only;omega)
end Go.Proofs.YtnoifgjiipgpoaaGreatDoor
