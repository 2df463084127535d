/- Parts of the proof: SearchT, Join, Tog, Sqz, SqzW, Own, Build, Srch, Srch2, Srch3, Srch4, Law17e, Law15b, Srch5, Srch6, Law19, ArgO, Whole. -/
import Derived.Test.YtackfabapangdaaGreatMG
import Derived.Test.YtackfabapangdaaGreatRows
import Derived.KernelRfl
set_option linter.all false
set_option maxHeartbeats 4000000
set_option maxRecDepth 4000
namespace Go.Proofs.YtackfabapangdaaGreat
open Go Go.Proofs.YtackfabapangdaaGreat.R
theorem moves_stops (x:Inst) (s:State):(x.moves s).length≤x.stops.length:=by
 rw [moves_can];exact canB_len _ _
theorem next_one (x:Inst) (n:Node) (up:Int):(x.next [n] up).length≤x.stops.length:=by
 have h1:=onceL_len ([n].flatMap (x.kids up))
 have h2:([n].flatMap (x.kids up)).length≤(x.moves n.s).length:=by
  rw [List.flatMap_cons,List.flatMap_nil,List.append_nil,Inst.kids]
  refine Nat.le_trans (List.length_filter_le _ _) ?_
  rw [List.length_map]
  exact Nat.le_refl _
 have h3:=moves_stops x n.s
 rw [Inst.next]
 omega
theorem buildGo_two {x:Inst} (w up dp:Int):∀(f:Nat) (ls:List (List Node)) (low:Int) (sq:Option Nat) (l:List Node),1≤ls.length→(∀k,sq=some k→2≤k)→(x.buildGo w up dp f ls low sq l).exact=true∨2≤(x.buildGo w up dp f ls low sq l).sure
 |0,ls,low,sq,l,_,h=>by
  cases sq with
  |none=>exact .inl rfl
  |some k=>exact .inr (h k rfl)
 |f+1,ls,low,sq,l,hl,h=>by
  have hlen:(ls++[l]).length=ls.length+1:=by simp
  rw [Inst.buildGo]
  split
  ·cases sq with
   |none=>exact .inl rfl
   |some k=>exact .inr (h k rfl)
  split
  ·cases sq with
   |none=>exact .inl rfl
   |some k=>exact .inr (h k rfl)
  split
  ·refine buildGo_two w up dp f _ _ _ _ (by omega) fun k hk=>?_
   cases sq with
   |none=>simp only [Option.getD_none,Option.some.injEq] at hk;omega
   |some i=>have:=h i rfl;simp only [Option.getD_some,Option.some.injEq] at hk;omega
  ·exact buildGo_two w up dp f _ _ _ _ (by omega) h
theorem build_two (x:Inst) (n:Node) (w up:Int) (he:(x.build n w up).exact=false):2≤(x.build n w up).sure:=by
 have key:(x.build n w up).exact=true∨2≤(x.build n w up).sure:=by
  rw [Inst.build,Inst.buildGo,if_neg (by simp)]
  split
  ·exact .inl rfl
  have h1:=next_one x n up
  rw [if_neg (by unfold Inst.mostN;omega)]
  exact buildGo_two w up _ _ _ _ _ _ (by simp) fun k hk=>by cases hk
 rcases key with h | h
 ·rw [he] at h;cases h
 ·exact h
theorem getD_of {α:Type} {l:List α} {i:Nat} {a d:α} (h:l[i]? =some a):l.getD i d=a:=by
 rw [List.getD_eq_getElem?_getD,h];rfl
theorem push_nos {x:Inst} {low:Int} {s:SS} {n:Node} (hn:∀e∈s.q,∃m,s.subs[e.no]? =some m):∀e∈(x.push low s n).q,∃m,(x.push low s n).subs[e.no]? =some m:=by
 rcases push_or x low s n with ⟨e,_⟩ | ⟨_,e⟩
 ·rw [e];exact hn
 rw [e]
 intro f hf
 rcases List.mem_append.1 hf with hf | hf
 ·obtain ⟨m,hm⟩:=hn f hf
  exact ⟨m,get_old hm⟩
 ·rw [List.mem_singleton.1 hf]
  exact ⟨n,by simp⟩
theorem goes_good {x:Inst} {p:Nat} (hx:x.Fit p):∀{v:List Int} {s:State} {c:Int} {t:State} {d:Int},Good x p s→x.goes v s c=some (t,d)→Good x p t
 |[],s,c,t,d,hg,h=>by
  rw [Inst.goes] at h
  cases h
  exact hg
 |j :: v,s,c,t,d,hg,h=>by
  rw [Inst.goes] at h
  split at h
  ·rename_i hm
   exact goes_good hx (good_step hx hg hm).1 h
  ·cases h
theorem Track.good {x:Inst} {p:Nat} (hx:x.Fit p) (hm:x.may=true) {n:Node} (h:Track x n):Good x p n.s:=goes_good hx (good_root hx hm) h.goes
theorem Track.len13 {x:Inst} {p:Nat} (hx:x.Fit p) (hm:x.may=true) (hp:p≤3) {n:Node} (h:Track x n):n.path.length≤13:=by
 have:=h.len
 have:=meas_root hx hm
 omega
theorem pot_lay {x:Inst} {p:Nat} (hx:x.Fit p) (hm:x.may=true) (hp:p≤3) {n:Node} (h:Track x n) (up:Int) (D:Nat):∀k,k≤D→potL p (D-k) (x.layN up n k)≤potS p D n.s
 |0,_=>by simp only [Inst.layN,potL];exact Nat.le_refl _
 |k+1,hk=>by
  have h1:=pot_lay hx hm hp h up D k (by omega)
  have h2:=potL_once p (D-(k+1)) ((x.layN up n k).flatMap (x.kids up)) []
  have h3:=pot_flat hx hp (D-(k+1)) up (x.layN up n k) fun m hmm=>(layN_track h up k m hmm).1.good hx hm
  rw [show D-(k+1)+1=D-k by omega] at h3
  simp only [potL] at h2
  rw [Inst.layN,Inst.next,onceL]
  omega
def wt (p:Nat) (n:Node):Nat:=potS p (13-n.path.length) n.s*(14-n.path.length)
def SS.mass (p:Nat) (s:SS):Nat:=(s.q.map fun e=>wt p (s.subs.getD e.no Node.zero)).sum
theorem wts_lay (p K:Nat):∀(l:List Node),(∀n∈l,n.path.length=K)→(l.map (wt p)).sum=potL p (13-K) l*(14-K)
 |[],_=>by simp [potL]
 |n :: l,h=>by
  rw [List.map_cons,List.sum_cons,wts_lay p K l fun m hm=>h m (List.mem_cons_of_mem _ hm),potL,wt,h n List.mem_cons_self,Nat.add_mul]
structure Grows (p:Nat) (s t:SS) (l:List Node):Prop where
 subs:t.subs.length≤s.subs.length+l.length
 mass:t.mass p≤s.mass p+(l.map (wt p)).sum
 nos:∀e∈t.q,∃m,t.subs[e.no]? =some m
theorem grows_push {x:Inst} (p:Nat) (low:Int) {s:SS} (n:Node) (hn:∀e∈s.q,∃m,s.subs[e.no]? =some m):Grows p s (x.push low s n) [n]:=by
 refine ⟨?_,?_,push_nos hn⟩
 ·rcases push_or x low s n with ⟨e,_⟩ | ⟨_,e⟩<;>rw [e]<;>simp
 rcases push_or x low s n with ⟨e,_⟩ | ⟨_,e⟩
 ·rw [e];omega
 rw [e,SS.mass,SS.mass]
 simp only
 rw [List.map_append,List.sum_append]
 have h1:(s.q.map fun e=>wt p ((s.subs++[n]).getD e.no Node.zero))=s.q.map fun e=>wt p (s.subs.getD e.no Node.zero):=by
  refine List.map_congr_left fun e he=>?_
  obtain ⟨m,hm⟩:=hn e he
  rw [getD_of hm,getD_of (get_old hm)]
 have h2:(s.subs++[n])[s.subs.length]? =some n:=by simp
 rw [h1,List.map_cons,List.map_nil,List.sum_cons,List.sum_nil,getD_of h2,List.map_cons,List.map_nil,List.sum_cons,List.sum_nil]
 omega
theorem grows_pushes {x:Inst} (p:Nat) (low:Int):∀(l:List Node) (s:SS),(∀e∈s.q,∃m,s.subs[e.no]? =some m)→Grows p s (l.foldl (x.push low) s) l
 |[],s,hn=>⟨by simp,by simp,hn⟩
 |n :: l,s,hn=>by
  obtain ⟨h1,h2,h3⟩:=grows_push (x:=x) p low n hn
  obtain ⟨k1,k2,k3⟩:=grows_pushes (x:=x) p low l (x.push low s n) h3
  refine ⟨?_,?_,k3⟩
  ·simp only [List.length_cons,List.length_nil,List.foldl_cons] at *;omega
  ·simp only [List.map_cons,List.map_nil,List.sum_cons,List.sum_nil,List.foldl_cons] at *;omega
theorem mass_like {p:Nat} {s t:SS} (h1:t.subs=s.subs) (h2:t.q=s.q):t.mass p=s.mass p:=by rw [SS.mass,SS.mass,h1,h2]
theorem wt_pos {x:Inst} {p:Nat} (hx:x.Fit p) (hm:x.may=true) (hp:p≤3) {n:Node} (h:Track x n):1≤wt p n:=by
 have h1:=h.len13 hx hm hp
 have h2:=pot_pos p (13-n.path.length) (keyM n.s) n.s.yard
 rw [wt]
 exact Nat.mul_pos h2 (by omega)
theorem exGo_cnt (x:Inst) (most:Int) (h0:0≤most) (hm:most≤3000):∀(d:Nat) (st:Node×Bool×Int) (l:List Node) (n:Int),0≤n→n+3000*d<9223372036854775808→
  n≤(x.exGo most d st l n).2.2.2∧(x.exGo most d st l n).2.2.2≤n+3000*d
 |0,st,l,n,_,_=>by rw [Inst.exGo];exact ⟨Int.le_refl _,by simp⟩
 |d+1,st,l,n,h1,hn=>by
  rw [Inst.exGo]
  split
  ·exact ⟨Int.le_refl _,by simp only;omega⟩
  split
  ·exact ⟨Int.le_refl _,by simp only;omega⟩
  rename_i c1 c2
  have hw:=w64 (n+l.length) (by omega)
  have:=exGo_cnt x most h0 hm d (x.look st l) (frontL (x.next l st.2.2)) (IntKind.i64.wrap (n+l.length)) (by omega) (by omega)
  omega
theorem sizes_le (K:Nat):∀(ls:List (List Node)),(∀l∈ls,l.length≤K)→sizes ls≤K*ls.length
 |[],_=>by simp [sizes]
 |l :: ls,h=>by
  have h1:=sizes_le K ls fun m hm=>h m (List.mem_cons_of_mem _ hm)
  have h2:=h l List.mem_cons_self
  rw [sizes] at h1 ⊢
  rw [List.map_cons,List.sum_cons,List.length_cons,Nat.mul_add]
  omega
theorem build_head (x:Inst) (n:Node) (w up:Int):∃ls,(x.build n w up).layers=[n] :: ls:=by
 obtain ⟨h,e⟩:=sure_get (build_ok x n w up) (i:=0) (by have:=(build_ok x n w up).pos;omega)
 cases hl:(x.build n w up).layers with
 |nil=>rw [hl] at h;simp at h
 |cons a ls=>
  refine ⟨ls,?_⟩
  have:(x.build n w up).layers[0]=[n]:=e
  simp only [hl,List.getElem_cons_zero] at this
  rw [this]
structure Cost (x:Inst) (p:Nat) (n:Node) (s t:SS):Prop where
 subs:t.subs.length+t.mass p≤s.subs.length+s.mass p+wt p n
 mass:t.mass p+1≤s.mass p+wt p n
 log:t.log.length=s.log.length+1
 least:s.steps+2≤t.steps
 most:t.steps≤s.steps+400000
theorem look_cost {x:Inst} {p:Nat} (hx:x.Fit p) (hm:x.may=true) (hp:p≤3) {n:Node} (ht:Track x n) {w:Int} (hw:w≤40) {s:SS} (hs:∀e∈s.q,∃m,s.subs[e.no]? =some m):Cost x p n s (x.lookS w s n):=by
 have hwp:=wt_pos hx hm hp ht
 obtain ⟨n1,n2⟩:=narrow_steps x n w s.up (by omega)
 have hml:=meas_le x n.s
 have hml0:=meas_le x x.rootS
 have hmu:widthN w*x.meas n.s≤3000*40:=Nat.mul_le_mul (by unfold widthN;split<;>omega) hml
 have hmst:x.mostN w≤40:=by
  have:=hx.len
  unfold Inst.mostN
  omega
 have h1:1≤x.mostN w:=by
  have:=hx.len
  unfold Inst.mostN
  omega
 rw [Inst.lookS]
 have hn1:=offer_up (s.plus (x.narrow n w s.up).2.2) ((x.narrow n w s.up).1,(x.narrow n w s.up).2.1)
 have q1:(s.nar x w n).subs=s.subs:=hn1.2.1
 have q2:(s.nar x w n).q=s.q:=hn1.2.2.1
 have q3:(s.nar x w n).log=s.log:=hn1.2.2.2.1
 have q4:(s.nar x w n).steps=s.steps+(x.narrow n w s.up).2.2:=hn1.2.2.2.2
 generalize s.nar x w n=t at *
 have hsz:1≤sizes (x.build n w t.up).layers∧sizes (x.build n w t.up).layers≤40*41:=by
  obtain ⟨ls,hls⟩:=build_head x n w t.up
  have hlay:=build_lay n w t.up h1
  have hc:=build_count x n w t.up
  have hd:=(deep_meas hm).2
  rw [hls] at hlay hc ⊢
  rw [List.length_cons] at hc
  have h3:=sizes_le 40 ls fun l hl=>by have:=(hlay l hl).2;omega
  have h4:sizes ([n] :: ls)=1+sizes ls:=by simp [sizes]
  rw [h4]
  have:40*ls.length≤40*40:=Nat.mul_le_mul_left _ (by omega)
  omega
 have hdt:∀d,(t.dia n d).subs=s.subs∧(t.dia n d).q=s.q∧(t.dia n d).log.length=s.log.length+1∧(t.dia n d).steps=t.steps+sizes d.layers:=fun d=>⟨q1,q2,by show (t.log++_).length=_;rw [q3,List.length_append];rfl,rfl⟩
 have e0:=hdt (x.build n w t.up)
 rw [Inst.lookD]
 split
 ·exact ⟨by rw [mass_like e0.1 e0.2.1,e0.1];omega,by rw [mass_like e0.1 e0.2.1];omega,e0.2.2.1,by rw [e0.2.2.2];omega,by rw [e0.2.2.2];omega⟩
 split
 ·have h3:=offer_up ((t.dia n (x.build n w t.up)).plus (x.exact n (t.dia n (x.build n w t.up)).up (x.mostN w)).2.2.2) ((x.exact n (t.dia n (x.build n w t.up)).up (x.mostN w)).1,(x.exact n (t.dia n (x.build n w t.up)).up (x.mostN w)).2.1)
  have hcnt:0≤(x.exact n (t.dia n (x.build n w t.up)).up (x.mostN w)).2.2.2∧(x.exact n (t.dia n (x.build n w t.up)).up (x.mostN w)).2.2.2≤0+3000*((x.meas n.s+1:Nat):Int):=exGo_cnt x _ (by omega) (by omega) _ _ _ _ (Int.le_refl _) (by omega)
  have f1:=h3.2.1.trans e0.1
  have f2:=h3.2.2.1.trans e0.2.1
  have f3:((t.dia n (x.build n w t.up)).exa x w n).log=(t.dia n (x.build n w t.up)).log:=h3.2.2.2.1
  have f4:((t.dia n (x.build n w t.up)).exa x w n).steps=(t.dia n (x.build n w t.up)).steps+(x.exact n (t.dia n (x.build n w t.up)).up (x.mostN w)).2.2.2:=h3.2.2.2.2
  refine ⟨by rw [SS.exa,mass_like f1 f2,f1];omega,by rw [SS.exa,mass_like f1 f2];omega,by rw [f3];exact e0.2.2.1,by rw [f4,e0.2.2.2];omega,by rw [f4,e0.2.2.2];omega⟩
 ·rename_i c1 c2
  have htwo:=build_two x n w t.up (by simpa using c2)
  have hok:=build_ok x n w t.up
  rw [Inst.branch]
  obtain ⟨hl,hlast⟩:=sure_get hok (i:=(x.build n w t.up).sure-1) (by omega)
  rw [List.getD_eq_getElem?_getD,List.getElem?_eq_getElem hl,Option.getD_some]
  have hpath:∀m∈(x.build n w t.up).layers[(x.build n w t.up).sure-1],Track x m∧m.path.length=n.path.length+((x.build n w t.up).sure-1):=by
   rw [hlast]
   exact fun m hmm=>layN_track ht t.up _ m hmm
  have ho:=offers_up x ((x.build n w t.up).layers.take ((x.build n w t.up).sure-1)) (t.dia n (x.build n w t.up))
  generalize hS:x.offers (t.dia n (x.build n w t.up)) ((x.build n w t.up).layers.take ((x.build n w t.up).sure-1))=S at *
  have g1:=ho.2.1.trans e0.1
  have g2:=ho.2.2.1.trans e0.2.1
  obtain ⟨k1,k2,k3⟩:=grows_pushes (x:=x) p (x.build n w t.up).low ((x.build n w t.up).layers[(x.build n w t.up).sure-1]) S (by rw [g1,g2];exact hs)
  have hup:=pushes_up x (x.build n w t.up).low ((x.build n w t.up).layers[(x.build n w t.up).sure-1]) S
  have hlen:=ht.len13 hx hm hp
  rw [mass_like g1 g2,wts_lay p _ _ fun m hmm=>(hpath m hmm).2] at k2
  rw [g1] at k1
  have key:potL p (13-(n.path.length+((x.build n w t.up).sure-1))) ((x.build n w t.up).layers[(x.build n w t.up).sure-1])*(14-(n.path.length+((x.build n w t.up).sure-1)))+((x.build n w t.up).layers[(x.build n w t.up).sure-1]).length≤wt p n∧
    potL p (13-(n.path.length+((x.build n w t.up).sure-1))) ((x.build n w t.up).layers[(x.build n w t.up).sure-1])*(14-(n.path.length+((x.build n w t.up).sure-1)))+1≤wt p n:=by
   by_cases hD:(x.build n w t.up).sure-1≤13-n.path.length
   ·have hpl:=pot_lay hx hm hp ht t.up (13-n.path.length) _ hD
    rw [←hlast,Nat.sub_sub] at hpl
    have hll:=potL_len p (13-(n.path.length+((x.build n w t.up).sure-1))) ((x.build n w t.up).layers[(x.build n w t.up).sure-1])
    generalize potL p (13-(n.path.length+((x.build n w t.up).sure-1))) ((x.build n w t.up).layers[(x.build n w t.up).sure-1])=A at *
    have hpos:=pot_pos p (13-n.path.length) (keyM n.s) n.s.yard
    rw [←potS] at hpos
    rw [wt]
    generalize potS p (13-n.path.length) n.s=G at *
    have m1:A*(14-(n.path.length+((x.build n w t.up).sure-1)))≤G*(13-n.path.length):=Nat.mul_le_mul hpl (by omega)
    have m2:G*(14-n.path.length)=G*(13-n.path.length)+G:=by
     rw [show 14-n.path.length=(13-n.path.length)+1 by omega,Nat.mul_add,Nat.mul_one]
    omega
   ·have:(x.build n w t.up).layers[(x.build n w t.up).sure-1]=[]:=by
     refine List.eq_nil_iff_forall_not_mem.2 fun m hmm=>?_
     obtain ⟨a,b⟩:=hpath m hmm
     have:=a.len13 hx hm hp
     omega
    rw [this]
    simp only [potL,List.length_nil]
    omega
  generalize potL p (13-(n.path.length+((x.build n w t.up).sure-1))) ((x.build n w t.up).layers[(x.build n w t.up).sure-1])*(14-(n.path.length+((x.build n w t.up).sure-1)))=A at *
  refine ⟨by omega,by omega,by rw [hup.2.1,ho.2.2.2.1];exact e0.2.2.1,by rw [hup.2.2,ho.2.2.2.2,e0.2.2.2];omega,by rw [hup.2.2,ho.2.2.2.2,e0.2.2.2];omega⟩
theorem sum_split {q q':List Ent} {k:Nat} (hk:k<q.length) (h:q'=q.take k++q.drop (k+1)) (g:Ent→Nat):(q.map g).sum=g q[k]+(q'.map g).sum:=by
 have hd:q=q.take k++q[k] :: q.drop (k+1):=by rw [←List.drop_eq_getElem_cons hk,List.take_append_drop]
 rw [h,List.map_append,List.sum_append]
 conv=>lhs;rw [hd]
 rw [List.map_append,List.sum_append,List.map_cons,List.sum_cons]
 omega
theorem take_sum {o:Int} {q:List Ent} {e:Ent} {q':List Ent} (h:takeQ o q=some (e,q')) (g:Ent→Nat):(q.map g).sum=g e+(q'.map g).sum:=by
 unfold takeQ at h
 split at h
 ·cases h
 rename_i hq
 have hk:=minI_lt o hq
 obtain ⟨h1,h2⟩:=Prod.mk.inj (Option.some.inj h)
 rw [sum_split hk h2.symm g,←h1]
 congr 2
 rw [List.getD_eq_getElem?_getD,List.getElem?_eq_getElem hk];rfl
structure Small (x:Inst) (p:Nat) (s:SS):Prop where
 subs:s.subs.length+s.mass p≤1849
 log:s.log.length+s.mass p≤1848
 steps:2*(s.log.length:Int)≤s.steps∧s.steps≤400000*s.log.length
theorem Small.left {x:Inst} {p:Nat} {s:SS} (h:Small x p s) {o:Int} {e:Ent} {q:List Ent} (ht:takeQ o s.q=some (e,q)):Small x p (s.left q)∧(s.left q).mass p+wt p (s.subs.getD e.no Node.zero)=s.mass p:=by
 have hsum:=take_sum ht fun e=>wt p (s.subs.getD e.no Node.zero)
 have hmass:s.mass p=wt p (s.subs.getD e.no Node.zero)+(s.left q).mass p:=hsum
 refine ⟨⟨?_,?_,h.steps⟩,by omega⟩
 ·have:=h.subs
  show s.subs.length+_≤_
  omega
 ·have:=h.log
  show s.log.length+_≤_
  omega
structure Going (x:Inst) (p:Nat) (s:SS):Prop where
 inv:SInv x s
 cov:s.Covers x fun _=>False
 small:Small x p s
theorem Going.skip {x:Inst} {p:Nat} {s:SS} (h:Going x p s) {o:Int} {e:Ent} {q:List Ent} (ht:takeQ o s.q=some (e,q)) (c:s.up≤e.bound):Going x p (s.left q):=by
 obtain ⟨t1,t2,t3,t4⟩:=take_some ht
 obtain ⟨n,hn⟩:=h.inv.nos e t1
 have hcl:=Covers.left h.inv h.cov t2 hn
 have hb:=h.inv.bound e t1 n hn
 refine ⟨h.inv.left t3,fun v c hv hlt=>?_,(h.small.left ht).1⟩
 rcases hcl v c hv hlt with ⟨v',d',hv',hd'⟩ | hq
 ·have hlt':c<s.up:=hlt
  have:=hb v' d' hv' (by omega)
  omega
 ·exact .inr hq
theorem Going.look {x:Inst} {p:Nat} (hx:x.Fit p) (hm:x.may=true) (hp:p≤3) {s:SS} (h:Going x p s) {w:Int} (hw:w≤40) {o:Int} {e:Ent} {q:List Ent} (htk:takeQ o s.q=some (e,q)):
  ∃n,s.subs[e.no]? =some n∧s.subs.getD e.no Node.zero=n∧Track x n∧Going x p (x.lookS w (s.left q) n)∧Cost x p n (s.left q) (x.lookS w (s.left q) n)∧(x.lookS w (s.left q) n).mass p<s.mass p:=by
 have hst:x.stops.length<2^31:=by have:=hx.len;omega
 obtain ⟨t1,t2,t3,t4⟩:=take_some htk
 obtain ⟨n,hn⟩:=h.inv.nos e t1
 have ht:=h.inv.track n (List.mem_of_getElem? hn)
 have hsl:=h.inv.left t3
 obtain ⟨k1,k2⟩:=look_ok2 hst hm ht w hsl (Covers.left h.inv h.cov t2 hn)
 obtain ⟨h1,h2⟩:=h.small.left htk
 rw [getD_of hn] at h2
 have hc:=look_cost hx hm hp ht hw (s:=s.left q) hsl.nos
 obtain ⟨c1,c2,c3,c4,c5⟩:=hc
 have:=h.small.subs
 have:=h.small.log
 have:=h.small.steps
 have e1:(s.left q).subs.length=s.subs.length:=rfl
 have e2:(s.left q).log.length=s.log.length:=rfl
 have e3:(s.left q).steps=s.steps:=rfl
 exact ⟨n,hn,getD_of hn,ht,⟨k1,k2,⟨by omega,by omega,by omega,by omega⟩⟩,⟨c1,c2,c3,c4,c5⟩,by omega⟩
theorem run_ends {x:Inst} {p:Nat} (hx:x.Fit p) (hm:x.may=true) (hp:p≤3) (o:Opt) (hw:o.width≤40):∀(N:Nat) (s:SS),Going x p s→s.mass p<N→∃r,x.runGo o N s=some r
 |0,s,_,h=>absurd h (Nat.not_lt_zero _)
 |N+1,s,hs,h=>by
  rw [Inst.runGo]
  cases ht:takeQ o.order s.q with
  |none=>exact ⟨_,rfl⟩
  |some r=>
   obtain ⟨e,q⟩:=r
   simp only
   obtain ⟨n,hn,hg,htn,k1,k2,k3⟩:=hs.look hx hm hp hw ht
   have hpos:=wt_pos hx hm hp htn
   obtain ⟨m1,m2⟩:=hs.small.left ht
   rw [hg] at m2 ⊢
   by_cases c1:s.up≤e.bound
   ·rw [if_pos c1]
    exact run_ends hx hm hp o hw N _ (hs.skip ht c1) (by omega)
   rw [if_neg c1]
   by_cases c2:o.budget≤s.steps
   ·rw [if_pos c2];exact ⟨_,rfl⟩
   rw [if_neg c2]
   exact run_ends hx hm hp o hw N _ k1 (by omega)
theorem lookD_up (x:Inst) (w:Int) (s:SS) (n:Node) (d:Diag):(x.lookD w s n d).up≤s.up:=by
 have e0:(s.dia n d).up=s.up:=rfl
 unfold Inst.lookD
 split
 ·rw [e0];exact Int.le_refl _
 split
 ·exact (offer_up _ _).1
 ·rw [Inst.branch,(pushes_up x d.low _ _).1]
  have:=(offers_up x (d.layers.take (d.sure-1)) (s.dia n d)).1
  omega
theorem look_up (x:Inst) (w:Int) (s:SS) (n:Node):(x.lookS w s n).up≤s.up:=by
 have h1:=lookD_up x w (s.nar x w n) n (x.build n w (s.nar x w n).up)
 have h2:(s.nar x w n).up≤s.up:=(offer_up _ _).1
 rw [Inst.lookS]
 omega
theorem run_mono {x:Inst} {p:Nat} (hx:x.Fit p) (hm:x.may=true) (hp:p≤3) (o:Opt) (hw:o.width≤40):∀(N:Nat) (s:SS) (r:SRes),Going x p s→x.runGo o N s=some r→s.steps≤r.steps∧r.up≤s.up∧s.log.length≤r.log.length∧2*(r.log.length:Int)≤r.steps
 |0,s,r,_,h=>by cases h
 |N+1,s,r,hs,h=>by
  have hsm:=hs.small.steps
  rw [Inst.runGo] at h
  cases ht:takeQ o.order s.q with
  |none=>
   rw [ht] at h
   cases h
   exact ⟨Int.le_refl _,Int.le_refl _,Nat.le_refl _,hsm.1⟩
  |some r'=>
   obtain ⟨e,q⟩:=r'
   rw [ht] at h
   simp only at h
   obtain ⟨n,hn,hg,htn,k1,k2,k3⟩:=hs.look hx hm hp hw ht
   rw [hg] at h
   by_cases c1:s.up≤e.bound
   ·rw [if_pos c1] at h
    exact run_mono hx hm hp o hw N (s.left q) r (hs.skip ht c1) h
   rw [if_neg c1] at h
   by_cases c2:o.budget≤s.steps
   ·rw [if_pos c2] at h
    cases h
    exact ⟨Int.le_refl _,Int.le_refl _,Nat.le_refl _,hsm.1⟩
   rw [if_neg c2] at h
   obtain ⟨i1,i2,i3,i4⟩:=run_mono hx hm hp o hw N _ r k1 h
   have h1:=k2.least
   have h2:=k2.log
   have h3:=look_up x o.width (s.left q) n
   have e2:(s.left q).log.length=s.log.length:=rfl
   have e3:(s.left q).steps=s.steps:=rfl
   have e4:(s.left q).up=s.up:=rfl
   exact ⟨by omega,by omega,by omega,i4⟩
theorem start_small {x:Inst} {p:Nat} (hx:x.Fit p) (hm:x.may=true) (hp:p≤3):Small x p x.start:=by
 obtain ⟨h1,h2,h3⟩:=grows_push (x:=x) p 0 (s:=⟨[],[],inf,[],0,[]⟩) x.rootN fun e he=>by simp at he
 have hup:=push_up x 0 ⟨[],[],inf,[],0,[]⟩ x.rootN
 have hpot:=pot_root p (by omega) 13 (by omega)
 have e3:keyM x.rootS=0:=by rw [Inst.rootS,if_pos hm];simp [keyM,State.zero]
 have e4:x.rootS.yard=true:=by rw [Inst.rootS,if_pos hm];simp [State.yard,State.zero]
 have hw:wt p x.rootN≤132*14:=by
  show pot p 13 (keyM x.rootS) x.rootS.yard*14≤_
  rw [e3,e4]
  exact Nat.mul_le_mul_right _ hpot
 have e5:(SS.mk [] [] inf [] 0 []).mass p=0:=rfl
 rw [Inst.start]
 simp only [List.map_cons,List.map_nil,List.sum_cons,List.sum_nil,List.length_cons,List.length_nil] at h1 h2
 refine ⟨by omega,?_,?_⟩
 ·rw [hup.2.1];simp only [List.length_nil];omega
 ·rw [hup.2.1,hup.2.2];simp
theorem start_going {x:Inst} {p:Nat} (hx:x.Fit p) (hm:x.may=true) (hp:p≤3):Going x p x.start:=by
 obtain ⟨h1,h2⟩:=start_ok (x:=x) (by have:=hx.len;omega) hm
 exact ⟨h1,h2,start_small hx hm hp⟩
end Go.Proofs.YtackfabapangdaaGreat

set_option maxRecDepth 4000
set_option maxHeartbeats 1000000
namespace Go.Proofs.YtackfabapangdaaGreat
open Go Go.Proofs.YtackfabapangdaaGreat.R
def hC (h:State×Nat×Bool):List AV:=[.i h.1.spot,.i h.1.car,.i h.1.time,.i h.1.load,.i h.1.first,.u h.1.must,.u h.1.can,.u h.1.on,.i h.2.1,.b h.2.2]
def addH (h:State×Nat×Bool) (t:State):State×Nat×Bool:=if h.2.1=0 then (t,1,h.2.2) else (h.1.join t,h.2.1+1,h.2.2||decide (t.spot≠h.1.spot))
theorem join_ok {s t:State} (h:s.ok) (k:t.ok):(s.join t).ok:=⟨Nat.and_lt_two_pow _ k.must,Nat.or_lt_two_pow h.can k.can,Nat.and_lt_two_pow _ k.on⟩
theorem addH_ok {h:State×Nat×Bool} {t:State} (h1:h.1.ok) (h2:t.ok):(addH h t).1.ok:=by
 unfold addH
 split
 ·exact h2
 ·exact join_ok h1 h2
theorem addH_many (h:State×Nat×Bool) (t:State):(addH h t).2.1=h.2.1+1:=by unfold addH;split<;>simp_all
theorem add_spec (h:State×Nat×Bool) (t:State) (hk:h.2.1<2^62) (ho:h.1.ok) (htk:t.ok) {σ:Nat→AObj} {nx b:Nat} (hb:b<nx) (hσ:σ b= .box (hC h)):
  CallSpec P 272 [.ptr b 0,t.a] σ nx (.tup []) (oput σ b (.box (hC (addH h t)))) nx:=by
 refine spec_down Tryz.func272 rfl rfl (by simp [Tryz.f272]) hb (by simp [bndO,bnd,bnd.bndL,hC]) (by simp [bnd,bnd.bndL]) fun hkn B hB hnx hσB=>?_
 simp only [Tryz.f272] at hB ⊢
 have hne:¬b=nx:=by omega
 have hne2:¬nx=b:=by omega
 obtain ⟨s,k,o⟩:=h
 simp only at hk ho
 by_cases c0:k=0
 ·subst c0
  have e:addH (s,0,o) t=(t,1,o):=rfl
  have w1:IntKind.i64.wrap 1=1:=w64 _ (by omega)
  rw [e]
  refine K_run hB 100 ?_
  simp [go_sem,State.a,State.cs,hσ,hC,hne,hne2,w1]
  exact fun i h1 h2=>by simp [h2,show ¬i=nx by omega]
 ·have e:addH (s,k,o) t=(s.join t,k+1,o||decide (t.spot≠s.spot)):=if_neg c0
  have hw:IntKind.i64.wrap ((k:Int)+1)=(k:Int)+1:=w64 _ (by omega)
  have c1:¬(k:Int)+1=1:=by omega
  rw [e]
  refine K_run hB 100 ?_
  simp [go_sem,State.a,State.cs,hσ,hC,hne,hne2,hw,c1]
  have hm1:=bandN ho.must htk.must
  have hm2:=bandN ho.on htk.on
  have hm3:=borN ho.can htk.can
  refine K_cut (α:=Unit) (fun _=>True) (fun _=>⟨sl [(0,.ptr b 0),(3,.ptr nx 0),(4,.ptr b 0)],oput (oput σ nx (.box t.cs)) b (.box (hC (s,k+1,o||decide (t.spot≠s.spot)))),nx+1⟩) ?_ fun _ _=>?_
  ·refine K_drawnT [16] rfl (by rw [hB];kernel_rfl) (by kernel_rfl) fun ht=>?_
   cases o with
   |true=>
    refine K_run hB 100 ?_
    simp [go_sem,ht,hσ,hC,hne,hne2,hw,c1]
    refine Imp.slots (by simp [go_sem]) ?_ rfl
    funext i
    by_cases e1:i=b
    ·simp [oput,e1,hC]
    ·simp [oput,e1,State.cs]
   |false=>
    refine K_run hB 100 ?_
    simp [go_sem,ht,hσ,hC,hne,hne2,hw,c1]
    refine Imp.slots (by simp [go_sem]) ?_ rfl
    funext i
    by_cases e1:i=b
    ·simp [oput,e1,hC]
    ·simp [oput,e1,State.cs]
  refine K_run hB 100 ?_
  simp [go_sem]
  refine K_drawnF [18,21] [1,13,14,15] rfl (by rw [hB];kernel_rfl) (by kernel_rfl) fun ht hf'=>?_
  refine K_run hB 100 ?_
  simp [go_sem,ht,hf',hC,hne,hne2,State.cs]
  refine K_drawnF [18,21] [1,13,14,15] rfl (by rw [hB];kernel_rfl) (by kernel_rfl) fun ht hf'=>?_
  refine K_run hB 100 ?_
  simp [go_sem,ht,hf',hC,hne,hne2,State.cs]
  refine K_drawnF [18,21] [1,13,14,15] rfl (by rw [hB];kernel_rfl) (by kernel_rfl) fun ht hf'=>?_
  refine K_run hB 100 ?_
  simp [go_sem,ht,hf',hC,hne,hne2,State.cs,hm1,hm2]
  refine K_drawnT [9] rfl (by rw [hB];kernel_rfl) (by kernel_rfl) fun ht=>?_
  refine K_run hB 100 ?_
  simp [go_sem,ht,hC,hne,hne2,State.cs,hm3]
  exact ⟨⟨rfl,rfl,rfl,rfl,rfl,rfl,rfl,rfl⟩,fun i h1 h2=>by simp [h2,show ¬i=nx by omega]⟩
def State.row (s:State):List T:=[.i s.spot,.i s.car,.i s.time,.i s.load,.i s.first,.v (.int .u64 s.must),.v (.int .u64 s.can),.v (.int .u64 s.on)]
theorem each_spec (l:List State) (h:State×Nat×Bool) (hl:l.length<2^31) (h0:h.2.1=0) (ho:h.1.ok) (hlo:∀t∈l,t.ok) {σ:Nat→AObj} {nx b r:Nat} (hb:b<nx) (hσ:σ b= .box (hC h)) (hr:r<nx) (hrb:r≠b) (hσr:σ r= .arr 8 (l.map State.row)):
  CallSpec P 271 [.fn (.func 272) [.ptr b 0] [],.ref r] σ nx (.tup []) (oput σ b (.box (hC (l.foldl addH h)))) nx:=by
 refine spec_down Tryz.func271 rfl rfl (by simp [Tryz.f271]) hb (by simp [bndO,bnd,bnd.bndL,hC]) (by simp [bnd,bnd.bndL]) fun hkn B hB hnx hσB=>?_
 simp only [Tryz.f271] at hB ⊢
 have hil:(l.map State.row).length=l.length:=List.length_map _
 have hgt:∀(k:Nat) (h:k<l.length),(l.map State.row)[k]'(by rw [hil];exact h)=l[k].row:=fun k h=>by rw [List.getElem_map]
 generalize l.map State.row=X at *
 generalize hR:l.foldl addH h=R
 refine K_run hB 100 ?_
 simp [go_sem,hσr,hil]
 refine K_loopP (α:=Nat×(State×Nat×Bool)×(Nat→AObj)×Nat) (fun (k,h,τ,ny)=>k≤l.length∧(l.drop k).foldl addH h=R∧h.2.1=k∧h.1.ok∧τ b= .box (hC h)∧nx≤ny∧∀i,i<nx→i≠b→τ i=σ i)
  (fun (k,h,τ,ny)=>⟨sl [(0,.fn (.func 272) [.ptr b 0] []),(6,.ref r),(7,.i l.length),(8,.i k)],τ,ny⟩) (fun a=>l.length-a.1) (0,h,σ,nx) ⟨Nat.zero_le _,hR,h0,ho,hσ,Nat.le_refl _,fun i _ _=>rfl⟩ (Imp.slots (by simp [go_sem]) rfl rfl) ?_
 rintro ⟨k,h,τ,ny⟩ ⟨g1,g2,g3,g4,g5,g6,g7⟩
 have hτr:τ r= .arr 8 X:=(g7 r hr hrb).trans hσr
 refine K_run hB 60 ?_
 simp [go_sem]
 refine fork_dec (fun hk=>?_) (fun hk=>?_)
 ·have hkk:IntKind.i64.wrap ((k:Int)+1)=((k+1:Nat):Int):=by rw [w64 ((k:Int)+1) (by omega)];rfl
  have hget:∀h:k<X.length,X[k]'h=l[k].row:=fun h=>hgt k hk
  rw [List.drop_eq_getElem_cons hk,List.foldl_cons] at g2
  have hto:=hlo l[k] (List.getElem_mem _)
  generalize l[k]=t at *
  have hadd:=fun (τ':Nat→AObj) (h1:τ' b= .box (hC h))=>add_spec h t (by omega) g4 hto (σ:=τ') (nx:=ny+1) (b:=b) (by omega) h1
  have hok:=addH_ok g4 hto
  have hmn:=addH_many h t
  generalize addH h t=h' at *
  have m1:¬b=ny:=by omega
  have m2:¬r=ny:=by omega
  simp [go_sem,hil,hk,hget,State.row,hτr,m2]
  refine K_call rfl rfl rfl (args:=[.ptr b 0,t.a]) (f:=272) (by simp [go_sem,State.a,State.cs]) (by simp [go_sem,hB]) (hadd _ (by simp [oput,m1,g5])) ?_
  refine K_run hB 100 ?_
  simp [go_sem,hkk]
  refine Next.mk (k+1,h',_,ny+1) ?_ (Imp.slots (by simp [go_sem]) rfl rfl) (by simp only;omega)
  refine ⟨by simp only;omega,g2,by simp only;omega,hok,by simp [oput],by simp only;omega,fun i h1 h2=>?_⟩
  simp [oput,h2,show ¬i=ny by omega,g7 i h1 h2]
 ·have:k=l.length:=by omega
  subst this
  rw [List.drop_length,List.foldl_nil] at g2
  subst g2
  simp [go_sem,g5]
  exact ⟨g6,g7⟩
theorem fold_addH:∀(l:List State) (s:State) (k:Nat) (o:Bool),l.foldl addH (s,k+1,o)=(l.foldl State.join s,k+1+l.length,o||l.any fun t=>decide (t.spot≠s.spot))
 |[],s,k,o=>by simp
 |t :: l,s,k,o=>by
  have e:addH (s,k+1,o) t=(s.join t,k+1+1,o||decide (t.spot≠s.spot)):=if_neg (by simp)
  rw [List.foldl_cons,e,fold_addH l (s.join t) (k+1),List.foldl_cons,List.any_cons,List.length_cons,←Bool.or_assoc,show k+1+1+l.length=k+1+(l.length+1) by omega]
  rfl
theorem join_fold (l:List State):joinL l=if (l.foldl addH (State.zero,0,false)).2.1=0∨(l.foldl addH (State.zero,0,false)).2.2=true then (State.zero,false) else ((l.foldl addH (State.zero,0,false)).1,true):=by
 cases l with
 |nil=>rfl
 |cons s l=>
  have e:addH (State.zero,0,false) s=(s,0+1,false):=rfl
  rw [List.foldl_cons,e,fold_addH,joinL,Bool.false_or]
  simp only [show ¬(0+1+l.length=0) by omega,false_or]
theorem join_spec (l:List State) (hl:l.length<2^31) (hlo:∀t∈l,t.ok) {σ:Nat→AObj} {nx r:Nat} (hr:r<nx) (hσr:σ r= .arr 8 (l.map State.row)):
  CallSpec P 263 [.ref r] σ nx (.tup [(joinL l).1.a,.b (joinL l).2]) σ nx:=by
 refine spec_keep Tryz.func263 rfl rfl (by simp [Tryz.f263]) (by simp [bnd,bnd.bndL,State.a,State.cs]) fun hk B hB hnx hσB=>?_
 simp only [Tryz.f263] at hB ⊢
 have hes:=fun (τ:Nat→AObj) (h1:τ (nx+1)= .box (hC (State.zero,0,false))) (h2:τ r= .arr 8 (l.map State.row))=>each_spec l (State.zero,0,false) hl rfl State.zero_ok hlo (σ:=τ) (nx:=nx+2) (b:=nx+1) (r:=r) (by omega) h1 (by omega) (by omega) h2
 have hj:=join_fold l
 generalize joinL l=J at *
 generalize l.foldl addH (State.zero,0,false)=H at *
 obtain ⟨s,k,o⟩:=H
 simp only at hj
 have m1:¬r=nx:=by omega
 have m2:¬r=nx+1:=by omega
 have fin:∀(a b c:AObj) (i:Nat),i<nx→oput (oput (oput σ nx a) (nx+1) b) (nx+1) c i=σ i:=fun a b c i h=>by simp [oput,show ¬i=nx by omega,show ¬i=nx+1 by omega]
 refine K_run hB 100 ?_
 simp [go_sem]
 refine K_call rfl rfl rfl (args:=[.fn (.func 272) [.ptr (nx+1) 0] [],.ref r]) (f:=271) (by simp [go_sem]) (by simp [go_sem,hB]) (hes _ (by simp [oput,hC,State.zero]) (by simp [oput,m1,m2,hσr])) ?_
 by_cases c0:k=0
 ·rw [if_pos (.inl c0)] at hj
  subst hj
  refine K_run hB 100 ?_
  simp [go_sem,hC,c0]
  exact ⟨fun i h=>by simp [show ¬i=nx by omega,show ¬i=nx+1 by omega],rfl⟩
 cases o with
 |true=>
  rw [if_pos (.inr rfl)] at hj
  subst hj
  refine K_run hB 100 ?_
  simp [go_sem,hC,c0]
  exact ⟨fun i h=>by simp [show ¬i=nx by omega,show ¬i=nx+1 by omega],rfl⟩
 |false=>
  rw [if_neg (by simp [c0])] at hj
  subst hj
  refine K_run hB 100 ?_
  simp [go_sem,hC,c0]
  exact ⟨fun i h=>by simp [show ¬i=nx by omega,show ¬i=nx+1 by omega],rfl⟩
end Go.Proofs.YtackfabapangdaaGreat

set_option maxRecDepth 4000
set_option maxHeartbeats 1000000
namespace Go.Proofs.YtackfabapangdaaGreat
open Go Go.Proofs.YtackfabapangdaaGreat.R
theorem costL_snoc (l:List Node) (m:Node):costL (l++[m])=if l=[]∨m.cost<costL l then m.cost else costL l:=by
 cases l with
 |nil=>simp [costL]
 |cons n l=>
  rw [List.cons_append,costL,List.foldl_append,costL]
  simp only [List.foldl_cons,List.foldl_nil,reduceCtorEq,false_or]
  split<;>omega
abbrev nodeC (s:State) (c:Int) (p:AV):List AV:=[.i s.spot,.i s.car,.i s.time,.i s.load,.i s.first,.u s.must,.u s.can,.u s.on,.i c,p]
theorem together_spec (l:List Node) (hl:l.length<2^31) (hlo:∀n∈l,n.s.ok) {σ:Nat→AObj} {nx r:Nat} (hr:r<nx) (hσr:σ r= .arr 10 (nodesT l)):
  CallSpec P 249 [.ref r] σ nx (.tup [(together l).1.a,.b (together l).2]) σ nx:=by
 refine spec_keep Tryz.func249 rfl rfl (by simp [Tryz.f249]) (by simp [bnd,bnd.bndL,Node.a,Node.cs]) fun hk B hB hnx hσB=>?_
 simp only [Tryz.f249] at hB ⊢
 have hil:(nodesT l).length=l.length:=List.length_map _
 have hgt:∀(k:Nat) (h:k<l.length),(nodesT l)[k]'(by rw [hil];exact h)=l[k].t:=fun k h=>nodesT_get l h
 have hmost:mostLen=4294967296:=rfl
 generalize hX:nodesT l=X at *
 have m1:¬r=nx:=by omega
 have m2:¬r=nx+1:=by omega
 have m3:¬r=nx+2:=by omega
 refine K_run hB 100 ?_
 simp [go_sem,hσr,hil,m1,m2]
 refine K_own 5 8 (by simp [go_sem]) ?_
 refine K_less (Imp.looseB (b:=nx+1) (cs:=[.i 0,.i 0,.i 0,.i 0,.i 0,.u 0,.u 0,.u 0,.i 0,.fsl []]) (by simp [oput])) ?_
 refine K_loopP (α:=Nat×Nat×(Nat→AObj)×Nat) (fun (k,q,τ,ny)=>k≤l.length∧τ (nx+1)= .box (nodeC State.zero (costL (l.take k)) (.t (.sl [])))∧τ q= .arr 8 ((l.map fun n=>n.s.row).take k)∧nx+2≤q∧q<ny∧τ nx= .box (nodeC State.zero 0 (.fsl []))∧∀i,i<nx→τ i=σ i)
  (fun (k,q,τ,ny)=>⟨sl [(2,.ptr nx 0),(3,.b false),(4,.ptr (nx+1) 0),(5,.ref q),(9,.ref r),(10,.i l.length),(11,.i k)],τ,ny⟩) (fun a=>l.length-a.1) (0,nx+2,_,nx+3) ?_ (Imp.slots (by simp [go_sem]) rfl rfl) ?_
 ·refine ⟨Nat.zero_le _,by simp [oput,loosen,State.zero,costL],by simp [oput],by omega,by omega,by simp [oput,State.zero,show ¬nx=nx+1+1 by omega],fun i h=>by simp [oput,show ¬i=nx by omega,show ¬i=nx+1 by omega,show ¬i=nx+2 by omega]⟩
 rintro ⟨k,q,τ,ny⟩ ⟨g1,g2,g3,g4,g5,g6,g7⟩
 have hτr:τ r= .arr 10 X:=(g7 r hr).trans hσr
 have n1:¬r=ny:=by omega
 have n2:¬nx+1=ny:=by omega
 have n3:¬q=ny:=by omega
 have n4:¬nx=ny:=by omega
 have n5:¬nx+1=q:=by omega
 have n6:¬ny=nx+1:=by omega
 have n7:¬q=nx+1:=by omega
 refine K_run hB 60 ?_
 simp [go_sem]
 refine fork_dec (fun hk=>?_) (fun hk=>?_)
 ·have hkk:IntKind.i64.wrap ((k:Int)+1)=((k+1:Nat):Int):=by rw [w64 ((k:Int)+1) (by omega)];rfl
  have hget:∀h:k<X.length,X[k]'h=l[k].t:=fun h=>hgt k hk
  have htk:l.take (k+1)=l.take k++[l[k]]:=List.take_succ_eq_append_getElem hk
  have hcs:=costL_snoc (l.take k) l[k]
  rw [←htk] at hcs
  have hnil:l.take k=[]↔k=0:=by
   rw [List.take_eq_nil_iff]
   constructor
   ·rintro (h | h)
    ·exact h
    ·rw [h] at hk;simp at hk
   ·exact fun h=>.inl h
  simp only [hnil] at hcs
  have hrow:(l.map fun n=>n.s.row).take k++[l[k].s.row]=(l.map fun n=>n.s.row).take (k+1):=by
   rw [List.take_succ_eq_append_getElem (by rw [List.length_map];exact hk),List.getElem_map]
  have hlen:((l.map fun n=>n.s.row).take k).length=k:=by rw [List.length_take,List.length_map];omega
  generalize (l.map fun n=>n.s.row).take k=rows at *
  generalize costL (l.take k)=c at *
  generalize l[k]=m at *
  have hcap:k+1≤mostLen:=by omega
  by_cases c0:k=0
  ·rw [if_pos (.inl c0)] at hcs
   have hd:decide (k=0)=true:=decide_eq_true c0
   simp [go_sem,hil,hk,hget,Node.t,hτr,n1,n2,n3,n4,n5,n6,n7,g2,g3,hd,hlen,hcap,hkk]
   refine Next.mk (k+1,ny+1,_,ny+2) ?_ (Imp.slots (by simp [go_sem]) rfl rfl) (by simp only;omega)
   refine ⟨by simp only;omega,by simp [oput,n4,n2,n3,n5,hcs,State.zero],by simp only [oput,if_true];rw [←hrow];rfl,by simp only;omega,by simp only;omega,by simp [oput,n4,g6,State.zero,show ¬nx=q by omega,show ¬nx=ny+1 by omega],fun i h=>by simp [oput,show ¬i=ny by omega,show ¬i=nx+1 by omega,show ¬i=q by omega,show ¬i=ny+1 by omega,g7 i h]⟩
  by_cases c1:m.cost<c
  ·rw [if_pos (.inr c1)] at hcs
   simp [go_sem,hil,hk,hget,Node.t,hτr,n1,n2,n3,n4,n5,n6,n7,g2,g3,c0,c1,hlen,hcap,hkk]
   refine Next.mk (k+1,ny+1,_,ny+2) ?_ (Imp.slots (by simp [go_sem]) rfl rfl) (by simp only;omega)
   refine ⟨by simp only;omega,by simp [oput,n4,n2,n3,n5,hcs,State.zero],by simp only [oput,if_true];rw [←hrow];rfl,by simp only;omega,by simp only;omega,by simp [oput,n4,g6,State.zero,show ¬nx=q by omega,show ¬nx=ny+1 by omega],fun i h=>by simp [oput,show ¬i=ny by omega,show ¬i=nx+1 by omega,show ¬i=q by omega,show ¬i=ny+1 by omega,g7 i h]⟩
  ·rw [if_neg (by rintro (h | h);exact c0 h;exact c1 h)] at hcs
   simp [go_sem,hil,hk,hget,Node.t,hτr,n1,n2,n3,n4,n5,n6,n7,g2,g3,c0,c1,hlen,hcap,hkk]
   refine Next.mk (k+1,ny+1,_,ny+2) ?_ (Imp.slots (by simp [go_sem]) rfl rfl) (by simp only;omega)
   refine ⟨by simp only;omega,by simp [oput,n4,n2,n3,n5,hcs,State.zero,g2],by simp only [oput,if_true];rw [←hrow];rfl,by simp only;omega,by simp only;omega,by simp [oput,n4,g6,State.zero,show ¬nx=q by omega,show ¬nx=ny+1 by omega],fun i h=>by simp [oput,show ¬i=ny by omega,show ¬i=nx+1 by omega,show ¬i=q by omega,show ¬i=ny+1 by omega,g7 i h]⟩
 ·have:k=l.length:=by omega
  subst this
  rw [List.take_length] at g2
  rw [List.take_of_length_le (by simp)] at g3
  have hjs:=fun (τ':Nat→AObj) (h1:τ' q= .arr 8 ((l.map fun n=>n.s).map State.row))=>join_spec (l.map fun n=>n.s) (by rw [List.length_map];exact hl) (fun t ht=>by
   obtain ⟨n,hn,rfl⟩:=List.mem_map.1 ht
   exact hlo n hn) (σ:=τ') (nx:=ny) (r:=q) g5 h1
  have htg:together l=(⟨(joinL (l.map fun n=>n.s)).1,costL l,[]⟩,(joinL (l.map fun n=>n.s)).2):=rfl
  generalize together l=TG at *
  generalize joinL (l.map fun n=>n.s)=J at *
  generalize costL l=c at *
  subst htg
  simp [go_sem]
  refine K_call rfl rfl rfl (args:=[.ref q]) (f:=263) (by simp [go_sem]) (by simp [go_sem,hB]) (hjs _ (by rw [List.map_map];exact g3)) ?_
  refine K_run hB 100 ?_
  simp [go_sem,State.a,State.cs,g2,g6,nodeC]
  exact ⟨by omega,fun i h=>by simp [show ¬i=nx by omega,show ¬i=nx+1 by omega,g7 i h],rfl⟩
end Go.Proofs.YtackfabapangdaaGreat

set_option maxRecDepth 4000
set_option maxHeartbeats 1000000
namespace Go.Proofs.YtackfabapangdaaGreat
open Go Go.Proofs.YtackfabapangdaaGreat.R
theorem nodup_inj {α:Type} {l:List α} (h:l.Nodup) {i j:Nat} (hi:i<l.length) (hj:j<l.length) (e:l[i]=l[j]):i=j:=by
 rcases Nat.lt_trichotomy i j with h1 | h1 | h1
 ·exact absurd e (List.pairwise_iff_getElem.1 h i j hi hj h1)
 ·exact h1
 ·exact absurd e.symm (List.pairwise_iff_getElem.1 h j i hj hi h1)
theorem nodup_set {α:Type} {l:List α} (h:l.Nodup) {a:α} (hm:a∉l) (i:Nat):(l.set i a).Nodup:=by
 refine List.pairwise_iff_getElem.2 fun j k hj hk hjk=>?_
 rw [List.length_set] at hj hk
 rw [List.getElem_set,List.getElem_set]
 split
 ·split
  ·omega
  ·exact fun e=>hm (e ▸ List.getElem_mem _)
 ·split
  ·exact fun e=>hm (e ▸ List.getElem_mem _)
  ·exact List.pairwise_iff_getElem.1 h j k hj hk hjk
abbrev kv (i:Int):Value:=.int .i64 i
noncomputable def kmap (K:List (Int×Nat)):List (Value×AV):=K.map fun p=>(kv p.1,.ref p.2)
def kfind (i:Int):List (Int×Nat)→Option (Nat×Nat)
 |[]=>none
 |p :: K=>if p.1=i then some (0,p.2) else (kfind i K).map fun r=>(r.1+1,r.2)
def kset (i:Int) (q:Nat) (K:List (Int×Nat)):List (Int×Nat):=match kfind i K with
 |some (j,_)=>K.set j (i,q)
 |none=>K++[(i,q)]
theorem kv_inj {i j:Int}:kv i=kv j↔i=j:=⟨fun h=>by injection h,fun h=>by rw [h]⟩
theorem findM_k (i:Int):∀(K:List (Int×Nat)),findM (kv i) (kmap K)=(kfind i K).map fun r=>(r.1,.ref r.2)
 |[]=>rfl
 |p :: K=>by
  have e:kmap (p :: K)=(kv p.1,.ref p.2) :: kmap K:=rfl
  rw [e,findM,kfind,findM_k i K]
  by_cases h:p.1=i
  ·rw [if_pos (by rw [h]),if_pos h];rfl
  ·rw [if_neg (fun e=>h (kv_inj.1 e)),if_neg h,Option.map_map,Option.map_map]
   rfl
theorem kfind_some {i:Int}:∀{K:List (Int×Nat)} {j q:Nat},kfind i K=some (j,q)→∃h:j<K.length,K[j]=(i,q)
 |[],j,q,h=>by cases h
 |p :: K,j,q,h=>by
  rw [kfind] at h
  split at h
  ·rename_i e
   cases h
   exact ⟨by simp,by rw [←e];rfl⟩
  ·obtain ⟨r,h1,h2⟩:=Option.map_eq_some_iff.1 h
   cases h2
   obtain ⟨h3,h4⟩:=kfind_some h1
   exact ⟨by simp;omega,by simpa using h4⟩
theorem kfind_none {i:Int}:∀{K:List (Int×Nat)},kfind i K=none→i∉K.map Prod.fst
 |[],_=>by simp
 |p :: K,h=>by
  rw [kfind] at h
  split at h
  ·cases h
  ·rename_i e
   have:=kfind_none (Option.map_eq_none_iff.1 h)
   simp only [List.map_cons,List.mem_cons,not_or]
   exact ⟨fun h=>e h.symm,this⟩
theorem setM_k (i:Int) (q:Nat) (K:List (Int×Nat)):setM (kv i) (.ref q) (kmap K)=kmap (kset i q K):=by
 rw [setM,findM_k,kset]
 cases h:kfind i K with
 |none=>simp [kmap]
 |some r=>simp [kmap,List.map_set]
theorem k_tell (i:Int) (K:List (Int×Nat)):TellM P 3 (.i i) (kv i) (kmap K):=by
 intro e he
 obtain ⟨p,hp,rfl⟩:=List.mem_map.1 he
 refine ⟨.i p.1,rfl,?_⟩
 have:eqA P 10000 3 (.i i) (.i p.1)=some (decide (i=p.1)):=by
  simp [eqA,tt3]
 rw [this]
 congr 1
 rw [decide_eq_decide]
 exact ⟨fun h=>by rw [h],fun h=>(kv_inj.1 h).symm⟩
def grp (L:List Node) (i:Int):List Node:=L.filter fun n=>decide (n.s.spot=i)
structure KI (K:List (Int×Nat)) (L:List Node) (σ:Nat→AObj) (base nx:Nat):Prop where
 keys:(K.map Prod.fst).Nodup
 objs:(K.map Prod.snd).Nodup
 rows:∀p∈K,σ p.2= .arr 10 (nodesT (grp L p.1))∧base≤p.2∧p.2<nx
 none:∀i,i∉K.map Prod.fst→grp L i=[]
theorem grp_snoc (L:List Node) (n:Node) (i:Int):grp (L++[n]) i=grp L i++if n.s.spot=i then [n] else []:=by
 rw [grp,List.filter_append,grp]
 congr 1
 by_cases h:n.s.spot=i<;>simp [h]
theorem kset_map {i:Int} {q:Nat} {K:List (Int×Nat)}:((kset i q K).map Prod.fst=K.map Prod.fst∧i∈K.map Prod.fst)∨((kset i q K).map Prod.fst=K.map Prod.fst++[i]∧i∉K.map Prod.fst):=by
 unfold kset
 cases h:kfind i K with
 |none=>exact .inr ⟨by simp,kfind_none h⟩
 |some r=>
  obtain ⟨j,q0⟩:=r
  obtain ⟨h1,h2⟩:=kfind_some h
  refine .inl ⟨?_,List.mem_map.2 ⟨_,List.getElem_mem h1,by rw [h2]⟩⟩
  simp only [List.map_set]
  refine List.ext_getElem (by simp) fun k hk1 hk2=>?_
  rw [List.getElem_set]
  split
  ·rename_i e
   subst e
   rw [List.getElem_map,h2]
  ·rfl
theorem kset_mem {i:Int} {q:Nat} {K:List (Int×Nat)} (hk:(K.map Prod.fst).Nodup) {p:Int×Nat} (hp:p∈kset i q K):p=(i,q)∨(p∈K∧p.1≠i):=by
 unfold kset at hp
 cases h:kfind i K with
 |none=>
  rw [h] at hp
  rcases List.mem_append.1 hp with hp | hp
  ·refine .inr ⟨hp,fun e=>kfind_none h (List.mem_map.2 ⟨p,hp,e⟩)⟩
  ·exact .inl (List.mem_singleton.1 hp)
 |some r=>
  obtain ⟨j,q0⟩:=r
  rw [h] at hp
  obtain ⟨h1,h2⟩:=kfind_some h
  obtain ⟨k,hk1,hk2⟩:=List.getElem_of_mem hp
  simp only [List.length_set] at hk1
  rw [List.getElem_set] at hk2
  split at hk2
  ·exact .inl hk2.symm
  ·rename_i e
   refine .inr ⟨by rw [←hk2];exact List.getElem_mem _,fun e2=>e ?_⟩
   have e3:(K.map Prod.fst)[j]'(by simpa using h1)=(K.map Prod.fst)[k]'(by simpa using hk1):=by
    rw [List.getElem_map,List.getElem_map,h2,hk2,e2]
   exact nodup_inj hk _ _ e3
theorem KI.ne {K:List (Int×Nat)} {L:List Node} {σ:Nat→AObj} {base nx:Nat} (h:KI K L σ base nx) {a b:Int×Nat} (ha:a∈K) (hb:b∈K) (hne:a.1≠b.1):a.2≠b.2:=by
 intro e
 obtain ⟨j,hj1,hj2⟩:=List.getElem_of_mem ha
 obtain ⟨k,hk1,hk2⟩:=List.getElem_of_mem hb
 have e3:(K.map Prod.snd)[j]'(by simpa using hj1)=(K.map Prod.snd)[k]'(by simpa using hk1):=by
  rw [List.getElem_map,List.getElem_map,hj2,hk2,e]
 have:=nodup_inj h.objs _ _ e3
 subst this
 rw [hj2] at hk2
 exact hne (by rw [hk2])
theorem KI.add {K:List (Int×Nat)} {L:List Node} {σ σ':Nat→AObj} {base nx nx' q:Nat} {n:Node} (h:KI K L σ base nx) (hq:nx≤q∧q<nx') (hb:base≤nx) (hs:∀p∈K,p.1≠n.s.spot→σ' p.2=σ p.2) (hσq:σ' q= .arr 10 (nodesT (grp L n.s.spot++[n]))):
  KI (kset n.s.spot q K) (L++[n]) σ' base nx':=by
 refine ⟨?_,?_,fun p hp=>?_,fun i hi=>?_⟩
 ·rcases kset_map (i:=n.s.spot) (q:=q) (K:=K) with ⟨e,_⟩ | ⟨e,e2⟩
  ·rw [e];exact h.keys
  ·rw [e,List.nodup_append]
   exact ⟨h.keys,by simp,fun a ha b hb=>by rw [List.mem_singleton.1 hb];exact fun e=>e2 (e ▸ ha)⟩
 ·have hlt:∀a∈K.map Prod.snd,a<nx:=fun a ha=>by
   obtain ⟨p,hp,rfl⟩:=List.mem_map.1 ha
   exact (h.rows p hp).2.2
  unfold kset
  cases hf:kfind n.s.spot K with
  |none=>
   simp only [List.map_append,List.map_cons,List.map_nil]
   rw [List.nodup_append]
   exact ⟨h.objs,by simp,fun a ha b hb=>by rw [List.mem_singleton.1 hb];have:=hlt a ha;omega⟩
  |some r=>
   simp only [List.map_set]
   exact nodup_set h.objs (fun hm=>by have:=hlt q hm;omega) _
 ·rcases kset_mem h.keys hp with rfl | ⟨h1,h2⟩
  ·refine ⟨?_,by simp only;omega,hq.2⟩
   rw [grp_snoc,if_pos rfl];exact hσq
  ·obtain ⟨r1,r2,r3⟩:=h.rows p h1
   refine ⟨?_,r2,by omega⟩
   rw [grp_snoc,if_neg (fun e=>h2 e.symm),List.append_nil,hs p h1 h2,r1]
 ·have:i∉K.map Prod.fst∧i≠n.s.spot:=by
   rcases kset_map (i:=n.s.spot) (q:=q) (K:=K) with ⟨e,e2⟩ | ⟨e,e2⟩
   ·rw [e] at hi;exact ⟨hi,fun e3=>hi (e3 ▸ e2)⟩
   ·rw [e] at hi
    simp only [List.mem_append,List.mem_singleton,not_or] at hi
    exact hi
  rw [grp_snoc,if_neg (fun e=>this.2 e.symm),h.none i this.1,List.append_nil]
end Go.Proofs.YtackfabapangdaaGreat

set_option maxRecDepth 4000
set_option maxHeartbeats 1000000
namespace Go.Proofs.YtackfabapangdaaGreat
open Go Go.Proofs.YtackfabapangdaaGreat.R
theorem mostN_eq (x:Inst) (w:Int):max w x.stops.length=(x.mostN w:Int):=by unfold Inst.mostN;omega
theorem most_pure (x:Inst) (w:Int):Pure P 223 [x.a,.i w] (.i (x.mostN w)):=by
 rw [←mostN_eq]
 refine pure_of Tryz.func223 rfl rfl (by simp [Tryz.f223]) (by simp [bnd,bnd.bndL,Inst.a]) (by simp [bnd,bnd.bndL]) fun B hB hnx=>?_
 simp only [Tryz.f223] at hB ⊢
 refine K_run hB 100 ?_
 simp [go_sem,Inst.a]
theorem squeeze_pure (x:Inst) (l:List Node) (w:Int) (hx:x.stops.length<2^31) (hl:l.length<2^31) (hn:∀n∈l,n.Fine):Pure P 225 [x.a,.t (.sl (nodesT l)),.i w] (.t (.sl (nodesT (x.squeeze l w)))):=by
 generalize hR:x.squeeze l w=R
 refine pure_of Tryz.func225 rfl rfl (by simp [Tryz.f225]) (by simp [bnd,bnd.bndL,Inst.a]) (by simp [bnd,bnd.bndL]) fun B hB hnx=>?_
 simp only [Tryz.f225] at hB ⊢
 have hso:=sorted_pure x l hx hl hn
 have hmo:=most_pure x w
 have hfS:∀n∈x.sortN l,n.Fine:=fun n h=>hn n (Inst.sortN_mem.1 h)
 have hSl:=x.sortN_len l
 rw [Inst.squeeze] at hR
 generalize x.sortN l=S at *
 have hM1:x.stops.length≤x.mostN w:=Nat.le_max_right _ _
 generalize x.mostN w=M at *
 have hNl:(nodesT S).length=S.length:=List.length_map _
 refine K_run hB 100 ?_
 simp [go_sem,Inst.a]
 refine K_call rfl rfl rfl (args:=[x.a,.t (.sl (nodesT l))]) (f:=181) (by simp [go_sem,Inst.a]) (by simp [go_sem,hB]) ((hso).spec _ _) ?_
 refine K_run hB 100 ?_
 simp [go_sem]
 refine K_call rfl rfl rfl (args:=[x.a,.i w]) (f:=223) (by simp [go_sem,Inst.a]) (by simp [go_sem,hB]) ((hmo).spec _ _) ?_
 by_cases c1:S.length≤M
 ·rw [if_pos c1] at hR
  subst hR
  refine K_run hB 100 ?_
  simp [go_sem,hNl,c1]
 rw [if_neg c1] at hR
 have hM2:M<2^31:=by omega
 obtain ⟨kp,hkp⟩:∃kp,kp=M-x.stops.length:=⟨_,rfl⟩
 have hkp2:(M:Int)-x.stops.length=kp:=by omega
 have hw1:IntKind.i64.wrap ((M:Int)-x.stops.length)=kp:=by rw [hkp2];exact w64 _ (by omega)
 have hkl:kp<S.length:=by omega
 have hS1:=nodesT_len S
 rw [←hkp] at hR
 have hXd:(nodesT S).drop kp=nodesT (S.drop kp):=by rw [nodesT,nodesT,List.map_drop]
 have hXt:(nodesT S).take kp=nodesT (S.take kp):=by rw [nodesT,nodesT,List.map_take]
 have hrl:(S.drop kp).length=S.length-kp:=List.length_drop
 have hrf:∀n∈S.drop kp,n.Fine:=fun n h=>hfS n (List.mem_of_mem_drop h)
 have hfl:(S.take kp).length≤kp:=by rw [List.length_take];omega
 refine K_run hB 100 ?_
 simp [go_sem,hNl,c1,hw1,if_pos hS1,hkl,Nat.le_of_lt hkl,hXd,hXt]
 generalize S.drop kp=rest at *
 generalize S.take kp=front at *
 have hQl:(nodesT rest).length=rest.length:=List.length_map _
 have hgt:∀(k:Nat) (h:k<rest.length),(nodesT rest)[k]'(by rw [hQl];exact h)=rest[k].t:=fun k h=>nodesT_get rest h
 generalize hX:nodesT rest=X at *
 have hmost:mostLen=4294967296:=rfl
 refine K_loopP (α:=Nat×List (Int×Nat)×(Nat→AObj)×Nat) (fun (k,K,τ,ny)=>k≤rest.length∧KI K (rest.take k) τ 2 ny∧τ 0= .box x.cs∧τ 1= .map (kmap K)∧2≤ny)
  (fun (k,K,τ,ny)=>⟨sl [(3,.ptr 0 0),(9,.fsl (nodesT front)),(10,.mapr 1),(39,.t (.sl X)),(40,.i rest.length),(41,.i k)],τ,ny⟩) (fun a=>rest.length-a.1) (0,[],_,2) ?_ (Imp.slots (by simp [go_sem,hQl]) rfl rfl) ?_
 ·exact ⟨Nat.zero_le _,⟨by simp,by simp,fun p h=>(by cases h),fun i _=>by simp [grp]⟩,by simp [oput,Inst.cs],by simp [oput,kmap],by omega⟩
 rintro ⟨k,K,τ,ny⟩ ⟨g1,g2,g3,g4,g5⟩
 refine K_run hB 60 ?_
 simp [go_sem]
 refine fork_dec (fun hk=>?_) (fun hk=>?_)
 ·have hkk:IntKind.i64.wrap ((k:Int)+1)=((k+1:Nat):Int):=by rw [w64 ((k:Int)+1) (by omega)];rfl
  have hget:∀h:k<X.length,X[k]'h=rest[k].t:=fun h=>hgt k hk
  have htk:rest.take (k+1)=rest.take k++[rest[k]]:=List.take_succ_eq_append_getElem hk
  have hgl:(grp (rest.take k) rest[k].s.spot).length≤k:=by
   refine Nat.le_trans (List.length_filter_le _ _) ?_
   rw [List.length_take];omega
  have hadd:=fun (τ':Nat→AObj) (ny' q:Nat)=>g2.add (n:=rest[k]) (σ':=τ') (nx':=ny') (q:=q)
  rw [←htk] at hadd
  generalize rest[k]=n at *
  have n0:¬0=ny:=by omega
  have n1:¬1=ny:=by omega
  simp [go_sem,hQl,hk,hget,Node.t,n0,n1]
  refine K_drawnF [11,12] [0,1,2,3] rfl (by rw [hB];kernel_rfl) (by kernel_rfl) fun ht hf'=>?_
  refine K_run hB 100 ?_
  simp [go_sem,ht,hf']
  refine K_dLookup (kt:=3) (et:=128) (es:=kmap K) (u:=kv n.s.spot) (m:=1) (r:=match kfind n.s.spot K with | some r=>.ref r.2 | none=>.fsl []) (by simp [go_sem]) rfl tt305 rfl tt128 (by kernel_rfl) (by simp [go_sem]) (by simp [go_sem,g4,n1,show ¬ny=0 by omega]) (by simp [go_sem];rfl) (by simp [go_sem];kernel_rfl) (by simp [go_sem];exact k_tell _ _) ?_ (by simp [ht]) ?_
  ·rw [lookA,findM_k]
   cases kfind n.s.spot K with
   |none=>simp [go_sem]
   |some r=>simp
  have hcap1:1≤mostLen:=by decide
  cases hf:kfind n.s.spot K with
  |none=>
   have hgr:grp (rest.take k) n.s.spot=[]:=g2.none _ (kfind_none hf)
   refine K_run hB 100 ?_
   simp [go_sem,ht,hf',n0,n1,hcap1]
   refine K_dTold (fun ho=>does_mapSet (P:=P) (n:=B.n) (kt:=3) (et:=128) (es:=kmap K) (u:=kv n.s.spot) (q:=1) ho (by simp [go_sem]) rfl tt305 rfl (by kernel_rfl) (by simp [go_sem]) (by simp [go_sem,g4,n1,show ¬ny=0 by omega]) (by simp [go_sem];rfl) (by simp [go_sem];kernel_rfl) (by simp [go_sem];exact k_tell _ _) (.inr (by simp [Instr.sameBits]))) (by simp) (fun q hq=>by rw [List.mem_singleton.1 hq];exact .inl (by kernel_rfl)) ?_
   refine K_run hB 100 ?_
   simp [go_sem,ht,hf',hkk,setM_k]
   refine Next.mk (k+1,kset n.s.spot (ny+1) K,_,ny+2) ?_ (Imp.slots (by simp [go_sem]) rfl rfl) (by simp only;omega)
   refine ⟨by simp only;omega,?_,by simp [oput,g3,n0],by simp [oput],by simp only;omega⟩
   refine hadd _ (ny+2) (ny+1) ⟨by omega,by omega⟩ g5 (fun p hp hne=>?_) ?_
   ·obtain ⟨_,s2,s3⟩:=g2.rows p hp
    simp [oput,show ¬p.2=ny by omega,show ¬p.2=1 by omega,show ¬p.2=ny+1 by omega]
   ·rw [hgr]
    simp [oput,nodesT,Node.t,show ¬ny=0 by omega]
  |some r=>
   obtain ⟨j,q⟩:=r
   obtain ⟨hj1,hj2⟩:=kfind_some hf
   have hmem:(n.s.spot,q)∈K:=hj2 ▸ List.getElem_mem hj1
   obtain ⟨r1,r2,r3⟩:=g2.rows (n.s.spot,q) hmem
   simp only at r1 r2 r3
   have n2:¬q=ny:=by omega
   have n3:¬1=q:=by omega
   have n4:¬0=q:=by omega
   have n5:¬ny=q:=by omega
   have hcap2:(nodesT (grp (rest.take k) n.s.spot)).length+1≤mostLen:=by rw [nodesT,List.length_map];omega
   refine K_run hB 100 ?_
   simp [go_sem,ht,hf',n0,n1,n2,n5,r1,hcap2]
   refine K_dTold (fun ho=>does_mapSet (P:=P) (n:=B.n) (kt:=3) (et:=128) (es:=kmap K) (u:=kv n.s.spot) (q:=1) ho (by simp [go_sem]) rfl tt305 rfl (by kernel_rfl) (by simp [go_sem]) (by simp [go_sem,g4,n1,n3,n4,show ¬ny=0 by omega]) (by simp [go_sem];rfl) (by simp [go_sem];kernel_rfl) (by simp [go_sem];exact k_tell _ _) (.inr (by simp [Instr.sameBits]))) (by simp) (fun q hq=>by rw [List.mem_singleton.1 hq];exact .inl (by kernel_rfl)) ?_
   refine K_run hB 100 ?_
   simp [go_sem,ht,hf',hkk,setM_k]
   refine Next.mk (k+1,kset n.s.spot (ny+1) K,_,ny+2) ?_ (Imp.slots (by simp [go_sem]) rfl rfl) (by simp only;omega)
   refine ⟨by simp only;omega,?_,by simp [oput,g3,n0,n4],by simp [oput],by simp only;omega⟩
   refine hadd _ (ny+2) (ny+1) ⟨by omega,by omega⟩ g5 (fun p hp hne=>?_) ?_
   ·obtain ⟨_,s2,s3⟩:=g2.rows p hp
    have:=g2.ne hp hmem hne
    simp only at this
    simp [oput,show ¬p.2=ny by omega,show ¬p.2=1 by omega,show ¬p.2=ny+1 by omega,this]
   ·simp [oput,nodesT,Node.t,show ¬ny=0 by omega]
 ·have:k=rest.length:=by omega
  subst this
  rw [List.take_length] at g2
  simp [go_sem,g3]
  have hok:∀(L:List Node),(∀n∈L,n∈rest)→∀n∈L,n.s.ok:=fun L h n hn=>(hrf n (h n hn)).ok
  refine K_loopP (α:=Nat×AV×List Node×(Nat→AObj)×Nat) (fun (i,A,out,τ',my)=>i≤x.stops.length∧(A= .fsl (nodesT out)∨∃q,A= .ref q∧τ' q= .arr 10 (nodesT out)∧ny≤q∧q<my)∧(out++((List.range x.stops.length).drop i).flatMap (oneAt rest)=R∧out.length≤kp+i)∧τ' 1= .map (kmap K)∧ny≤my∧∀p∈K,τ' p.2=τ p.2)
   (fun (i,A,out,τ',my)=>⟨sl [(9,A),(10,.mapr 1),(60,.i x.stops.length),(61,.i i)],τ',my⟩) (fun a=>x.stops.length-a.1) (0,.fsl (nodesT front),front,τ,ny) ?_ (Imp.slots (by simp [go_sem]) rfl rfl) ?_
  ·exact ⟨Nat.zero_le _,.inl rfl,⟨hR,hfl⟩,g4,Nat.le_refl _,fun p _=>rfl⟩
  rintro ⟨i,A,out,τ',my⟩ ⟨f1,f2,⟨f3,f3'⟩,f4,f5,f6⟩
  refine K_run hB 60 ?_
  simp [go_sem]
  refine fork_dec (fun hi=>?_) (fun hi=>?_)
  ·have hii:IntKind.i64.wrap ((i:Int)+1)=((i+1:Nat):Int):=by rw [w64 ((i:Int)+1) (by omega)];rfl
   rw [List.drop_eq_getElem_cons (by rw [List.length_range];exact hi),List.getElem_range,List.flatMap_cons,←List.append_assoc] at f3
   have hone:oneAt rest i=if (together (grp rest i)).2=true then [(together (grp rest i)).1] else []:=rfl
   have htg:=fun (τ2:Nat→AObj) (m2 q:Nat) (h1:q<m2) (h2:τ2 q= .arr 10 (nodesT (grp rest i)))=>together_spec (grp rest i) (Nat.lt_of_le_of_lt (List.length_filter_le _ _) (by omega)) (hok _ fun n hn=>(List.mem_filter.1 hn).1) (σ:=τ2) (nx:=m2) (r:=q) h1 h2
   simp [go_sem]
   refine K_lookup (kt:=3) (et:=128) (es:=kmap K) (u:=kv i) (m:=1) (r:=match kfind i K with | some r=>.ref r.2 | none=>.fsl []) rfl rfl (by simp [go_sem,hB]) tt305 rfl tt128 (by kernel_rfl) (by simp [go_sem]) (by simp [go_sem,f4]) (by simp [go_sem];rfl) (by simp [go_sem];kernel_rfl) (by simp [go_sem];exact k_tell _ _) ?_ ?_
   ·rw [lookA,findM_k]
    cases kfind i K with
    |none=>simp [go_sem]
    |some r=>simp
   refine K_impE (α:=Nat×(Nat→AObj)×Nat) (fun (q,τ2,m2)=>my≤m2∧q<m2∧τ2 q= .arr 10 (nodesT (grp rest i))∧∀j,j<my→τ2 j=τ' j) (fun (q,τ2,m2)=>⟨sl [(9,A),(10,.mapr 1),(60,.i x.stops.length),(61,.i i),(67,.ref q)],τ2,m2⟩) ?_ ?_
   ·cases hf:kfind i K with
    |none=>
     have hgr:grp rest i=[]:=g2.none _ (kfind_none hf)
     refine ⟨(my,_,my+1),⟨by omega,by omega,?_,?_⟩,(Imp.own (t:=67) (sz:=10) (by simp [go_sem])).trans (Imp.slots (by simp [go_sem]) rfl rfl)⟩
     ·rw [hgr];simp [oput,nodesT]
     ·intro j hj;simp [oput,show ¬j=my by omega]
    |some r=>
     obtain ⟨j,q⟩:=r
     obtain ⟨hj1,hj2⟩:=kfind_some hf
     have hmem:((i:Int),q)∈K:=hj2 ▸ List.getElem_mem hj1
     obtain ⟨r1,r2,r3⟩:=g2.rows _ hmem
     refine ⟨(q,_,my),⟨Nat.le_refl _,by simp only at r3 ⊢;omega,?_,fun _ _=>rfl⟩,Imp.slots (by simp [go_sem]) rfl rfl⟩
     exact (f6 _ hmem).trans r1
   rintro ⟨q,τ2,m2⟩ ⟨e1,e2,e3,e4⟩
   refine K_call rfl rfl rfl (args:=[.ref q]) (f:=249) (by simp [go_sem]) (by simp [go_sem,hB]) (htg _ _ _ e2 e3) ?_
   generalize together (grp rest i)=TG at *
   obtain ⟨tn,tb⟩:=TG
   have hcap1:1≤mostLen:=by decide
   have hcap2:(nodesT out).length+1≤mostLen:=by rw [nodesT,List.length_map];omega
   have m1:¬1=m2:=by omega
   have m0:¬1=m2+1:=by omega
   have hlow:∀j,ny≤j→j≠1:=fun j h=>by omega
   cases tb with
   |false=>
    rw [hone,if_neg (by simp),List.append_nil] at f3
    refine K_run hB 100 ?_
    simp [go_sem,Node.a,Node.cs,hii]
    refine Next.mk (i+1,A,out,_,m2+1) ?_ (Imp.slots (by simp [go_sem]) rfl rfl) (by simp only;omega)
    refine ⟨by simp only;omega,?_,⟨f3,by simp only;omega⟩,by simp [oput,m1,e4 1 (by omega),f4],by simp only;omega,?_⟩
    ·rcases f2 with f2 | ⟨q',f2,f7,f8,f9⟩
     ·exact .inl f2
     ·exact .inr ⟨q',f2,by simp [oput,show ¬q'=m2 by omega,e4 q' f9,f7],f8,by simp only;omega⟩
    ·intro a b hab
     have h1:=(g2.rows _ hab).2.2
     have h2:=f6 _ hab
     simp only at h1 h2
     simp [oput,show ¬b=m2 by omega,e4 b (by omega),h2]
   |true=>
    rw [hone,if_pos (by simp)] at f3
    simp only at f3
    have hsn:nodesT (out++[tn])=nodesT out++[tn.t]:=by simp [nodesT]
    rcases f2 with f2 | ⟨q',f2,f7,f8,f9⟩
    ·subst f2
     refine K_run hB 100 ?_
     simp [go_sem,Node.a,Node.cs,hcap1,hcap2,hii,if_pos (nodesT_len out)]
     refine Next.mk (i+1,.ref (m2+1),out++[tn],_,m2+2) ?_ (Imp.slots (by simp [go_sem]) rfl rfl) (by simp only;omega)
     refine ⟨by simp only;omega,.inr ⟨m2+1,rfl,?_,by omega,by simp only;omega⟩,⟨f3,by simp only [List.length_append,List.length_cons,List.length_nil];omega⟩,by simp [oput,m1,m0,e4 1 (by omega),f4,show ¬m2=0 by omega],by simp only;omega,?_⟩
     ·rw [hsn];simp [oput,Node.t]
     ·intro a b hab
      have h1:=(g2.rows _ hab).2.2
      have h2:=f6 _ hab
      simp only at h1 h2
      simp [oput,show ¬b=m2 by omega,show ¬b=m2+1 by omega,e4 b (by omega),h2]
    ·subst f2
     have hq1:¬q'=m2:=by omega
     have hq2:¬m2=q':=by omega
     have hq3:¬1=q':=by omega
     refine K_run hB 100 ?_
     simp [go_sem,Node.a,Node.cs,hcap1,hcap2,hii,hq1,e4 q' f9,f7]
     refine Next.mk (i+1,.ref (m2+1),out++[tn],_,m2+2) ?_ (Imp.slots (by simp [go_sem]) rfl rfl) (by simp only;omega)
     refine ⟨by simp only;omega,.inr ⟨m2+1,rfl,?_,by omega,by simp only;omega⟩,⟨f3,by simp only [List.length_append,List.length_cons,List.length_nil];omega⟩,by simp [oput,m1,m0,hq3,e4 1 (by omega),f4,show ¬m2=0 by omega],by simp only;omega,?_⟩
     ·rw [hsn];simp [oput,Node.t]
     ·intro a b hab
      have h1:=(g2.rows _ hab).2.2
      have h2:=f6 _ hab
      simp only at h1 h2
      simp [oput,show ¬b=m2 by omega,show ¬b=m2+1 by omega,show ¬b=q' by omega,e4 b (by omega),h2]
  ·have:i=x.stops.length:=by omega
   subst this
   rw [List.drop_of_length_le (by simp),List.flatMap_nil,List.append_nil] at f3
   subst f3
   rcases f2 with f2 | ⟨q',f2,f7,f8,f9⟩
   ·subst f2
    simp [go_sem]
   ·subst f2
    simp [go_sem,f7]
end Go.Proofs.YtackfabapangdaaGreat

set_option maxRecDepth 4000
set_option maxHeartbeats 1000000
namespace Go.Proofs.YtackfabapangdaaGreat
open Go Go.Proofs.YtackfabapangdaaGreat.R
theorem cloneN_spec (l:List Node) (hl:l.length<4294967296) (σ:Nat→AObj) (nx:Nat):CallSpec P 248 [.t (.sl (nodesT l))] σ nx (.ref nx) (oput σ nx (.arr 10 (nodesT l))) (nx+1):=by
 refine CallQ.spec (spec_of Tryz.func248 rfl rfl (by simp [Tryz.f248]) fun B hB hnx hσ=>K_after ?_)
 simp only [Tryz.f248] at hB ⊢
 have hil:(nodesT l).length=l.length:=List.length_map _
 have hne:nodesT l=[]↔l=[]:=by simp [nodesT]
 have h1:=nodesT_len l
 have hmost:l.length≤mostLen:=by show l.length≤4294967296;omega
 refine K_run hB 100 ?_
 simp [go_sem]
 refine K_nilEq (es:=nodesT l) rfl rfl (by simp [go_sem,hB]) tt128 rfl (by simp [go_sem]) fun b hb=>?_
 cases b with
 |true=>
  have e:l=[]:=Decidable.byContradiction fun h=>by have:=hb (fun h'=>h (hne.1 h'));cases this
  have e2:nodesT l=[]:=hne.2 e
  refine K_run hB 100 ?_
  simp [go_sem]
  refine ⟨_,fun a w hr=>rel_own (t:=2) (sz:=10) (by simp [go_sem]) hr,?_⟩
  simp [go_sem,e2]
 |false=>
  refine K_run hB 100 ?_
  simp [go_sem,hil,hne,hmost,if_pos h1]
  refine ⟨_,Imp.self,?_⟩
  simp [go_sem]
theorem ownN_pure (l:List Node) (hl:l.length<2^31) (hp:∀n∈l,n.path.length<2^31):Pure P 224 [.t (.sl (nodesT l))] (.t (.sl (nodesT l))):=by
 refine pure_of Tryz.func224 rfl rfl (by simp [Tryz.f224]) (by simp [bnd,bnd.bndL]) (by simp [bnd,bnd.bndL]) fun B hB hnx=>?_
 simp only [Tryz.f224] at hB ⊢
 have hil:(nodesT l).length=l.length:=List.length_map _
 have hgt:∀(k:Nat) (h:k<l.length),(nodesT l)[k]'(by rw [hil];exact h)=l[k].t:=fun k h=>nodesT_get l h
 refine K_run hB 100 ?_
 simp [go_sem]
 refine K_call rfl rfl rfl (args:=[.t (.sl (nodesT l))]) (f:=248) (by simp [go_sem]) (by simp [go_sem,hB]) (cloneN_spec l (by omega) _ _) ?_
 refine K_run hB 100 ?_
 simp [go_sem,hil]
 refine K_loopP (α:=Nat×(Nat→AObj)×Nat) (fun (k,τ,ny)=>k≤l.length∧τ 0= .arr 10 (nodesT l)∧0<ny) (fun (k,τ,ny)=>⟨sl [(0,.ref 0),(7,.ref 0),(8,.i l.length),(9,.i k)],τ,ny⟩) (fun a=>l.length-a.1) (0,_,1) ⟨Nat.zero_le _,by simp [oput],by omega⟩ (Imp.slots (by simp [go_sem]) rfl rfl) ?_
 rintro ⟨k,τ,ny⟩ ⟨g1,g2,g3⟩
 refine K_run hB 60 ?_
 simp [go_sem]
 refine fork_dec (fun hk=>?_) (fun hk=>?_)
 ·have hkk:IntKind.i64.wrap ((k:Int)+1)=((k+1:Nat):Int):=by rw [w64 ((k:Int)+1) (by omega)];rfl
  have hget:∀h:k<(nodesT l).length,(nodesT l)[k]'h=l[k].t:=fun h=>hgt k hk
  have hpk:=hp l[k] (List.getElem_mem _)
  have hset:∀y,y=l[k].t→(nodesT l).set k y=nodesT l:=fun y hy=>by
   subst hy
   refine List.ext_getElem (by simp) fun i h1 h2=>?_
   rw [List.getElem_set]
   split
   ·rename_i e;subst e;exact (hget h2).symm
   ·rfl
  generalize hm:l[k]=m at *
  have n0:¬0=ny:=by omega
  have q1:(k*10+9) / 10=k:=by omega
  have q2:(k*10+9) % 10=9:=by omega
  simp [go_sem,hil,hk,hget,Node.t,g2,n0]
  refine K_call rfl rfl rfl (args:=[.t (.sl (ints m.path))]) (f:=215) (by simp [go_sem]) (by simp [go_sem,hB]) (clone_spec m.path (by omega) _ _) ?_
  refine K_imp ((Imp.freeze (q:=ny+1) (sz:=1) (es:=ints m.path) (by simp [oput])).trans (Imp.slots (l:=[(0,.ref 0),(7,.ref 0),(8,.i l.length),(9,.i k),(14,.ref 0),(15,.i k),(18,.t (.sl (ints m.path)))]) (by simp [go_sem,frz1]) rfl rfl)) ?_
  have hfz:frzO (ny+1) (ints m.path) (.arr 10 (nodesT l))= .arr 10 (nodesT l):=rfl
  refine K_run hB 100 ?_
  simp [go_sem,g2,n0,hil,hk,hget,Node.t,q1,q2,hfz,hkk,show ¬ny=0 by omega]
  refine Next.mk (k+1,_,ny+2) ⟨by simp only;omega,?_,by simp only;omega⟩ (Imp.slots (by simp [go_sem]) rfl rfl) (by simp only;omega)
  simp only [oput,if_true]
  exact congrArg (AObj.arr 10) (hset _ rfl)
 ·have:k=l.length:=by omega
  subst this
  simp [go_sem,g2]
theorem over_spec (x:Inst) (w:Int) (l:List Node) {σ:Nat→AObj} {nx a b:Nat} (ha:a<nx) (hb:b<nx) (h1:σ a= .box x.cs) (h2:σ b= .box [.i w]):
  CallSpec P 222 [.t (.sl (nodesT l)),.ptr a 0,.ptr b 0] σ nx (.b (decide (x.mostN w<l.length))) σ nx:=by
 refine spec_keep Tryz.func222 rfl rfl (by simp [Tryz.f222]) (by simp [bnd]) fun hk B hB hnx hσB=>?_
 simp only [Tryz.f222] at hB ⊢
 have hm:=most_pure x w
 have hil:(nodesT l).length=l.length:=List.length_map _
 generalize x.mostN w=M at *
 refine K_run hB 100 ?_
 simp [go_sem,h1,h2,hil,Inst.cs]
 refine K_call rfl rfl rfl (args:=[x.a,.i w]) (f:=223) (by simp [go_sem,Inst.a]) (by simp [go_sem,hB]) ((hm).spec _ _) ?_
 refine K_run hB 100 ?_
 simp [go_sem]
end Go.Proofs.YtackfabapangdaaGreat

set_option maxRecDepth 4000
set_option maxHeartbeats 2000000
namespace Go.Proofs.YtackfabapangdaaGreat
open Go Go.Proofs.YtackfabapangdaaGreat.R
def lysT (ls:List (List Node)):List (List T):=ls.map fun l=>[.sl (nodesT l)]
def Diag.cs (d:Diag):List AV:=[.t (.sl (lysT d.layers)),.i d.low,.b d.exact,.i d.sure]
def Diag.a (d:Diag):AV:=.agg d.cs
structure WFine (l:List Node) (K:Nat):Prop where
 ok:∀n∈l,n.s.ok
 path:∀n∈l,n.path.length≤K
theorem WFine.next {x:Inst} {l:List Node} {K:Nat} (h:WFine l K) (up:Int):WFine (x.next l up) (K+1):=by
 refine ⟨?_,?_⟩<;>(intro m hm;obtain ⟨n,hn,j,hj,rfl,_⟩:=next_mem hm)
 ·exact move_ok x j (h.ok n hn)
 ·have:=h.path n hn
  show (n.path++[j]).length≤K+1
  rw [List.length_append]
  simp only [List.length_cons,List.length_nil]
  omega
theorem fold_ok:∀(l:List State) (s:State),s.ok→(∀t∈l,t.ok)→(l.foldl State.join s).ok
 |[],s,h,_=>h
 |t :: l,s,h,k=>fold_ok l (s.join t) (join_ok h (k t List.mem_cons_self)) fun u hu=>k u (List.mem_cons_of_mem _ hu)
theorem joinL_ok {l:List State} (h:∀t∈l,t.ok):(joinL l).1.ok:=by
 cases l with
 |nil=>exact State.zero_ok
 |cons s l=>
  rw [joinL]
  split
  ·exact State.zero_ok
  ·exact fold_ok l s (h s List.mem_cons_self) fun t ht=>h t (List.mem_cons_of_mem _ ht)
theorem WFine.squeeze {x:Inst} {l:List Node} {K:Nat} (h:WFine l K) (w:Int):WFine (x.squeeze l w) K:=by
 refine ⟨fun m hm=>?_,fun m hm=>?_⟩
 ·rcases squeeze_mem hm with hm | ⟨i,g,h1,h2,h3,rfl⟩
  ·exact h.ok m hm
  ·exact joinL_ok fun t ht=>by
    obtain ⟨q,hq,rfl⟩:=List.mem_map.1 ht
    exact h.ok q (h3 q hq).1
 ·rcases squeeze_mem hm with hm | ⟨i,g,h1,h2,h3,rfl⟩
  ·exact h.path m hm
  ·exact Nat.zero_le _
theorem deep_le (x:Inst):0≤x.deep∧x.deep≤39:=by
 unfold Inst.deep
 split
 ·rename_i hm
  obtain ⟨p,hx⟩:=x.fit hm
  have:=hx.pairs
  have:=hx.few
  have:=hx.cars
  omega
 ·omega
theorem next_few {x:Inst} {l:List Node} {up w:Int} (hw:w≤3000) (h:(x.next l up).length≤x.mostN w):(x.next l up).length≤3000:=by
 cases hm:x.may with
 |true=>
  obtain ⟨p,hx⟩:=x.fit hm
  have:=hx.len
  have:=hx.few
  unfold Inst.mostN at h
  omega
 |false=>
  have:x.next l up=[]:=by
   refine List.eq_nil_iff_forall_not_mem.2 fun m hm2=>?_
   obtain ⟨n,hn,j,hj,_⟩:=next_mem hm2
   have:=(move_may (moves_mem hj)).1
   rw [hm] at this;cases this
  rw [this];simp
theorem most_few {x:Inst} {l:List Node} {up w:Int} (hw:w≤3000) (h:x.mostN w<(x.next l up).length):x.mostN w≤3000:=by
 cases hm:x.may with
 |true=>
  obtain ⟨p,hx⟩:=x.fit hm
  have:=hx.len
  have:=hx.few
  unfold Inst.mostN
  omega
 |false=>
  have:x.next l up=[]:=by
   refine List.eq_nil_iff_forall_not_mem.2 fun m hm2=>?_
   obtain ⟨n,hn,j,hj,_⟩:=next_mem hm2
   have:=(move_may (moves_mem hj)).1
   rw [hm] at this;cases this
  rw [this] at h;simp at h
theorem build_pure (x:Inst) (n:Node) (w up:Int) (hl:x.stops.length<2^31) (hw:w≤3000) (ho:n.s.ok) (hp:n.path.length<2^29):Pure P 182 [x.a,n.a,.i w,.i up] ((x.build n w up).a):=by
 generalize hR:x.build n w up=R
 refine pure_of Tryz.func182 rfl rfl (by simp [Tryz.f182]) (by simp [bnd,bnd.bndL,Inst.a,Node.a,Node.cs]) (by simp [bnd,bnd.bndL,Diag.a,Diag.cs]) fun B hB hnx=>?_
 simp only [Tryz.f182] at hB ⊢
 have hdeep:=deep_pure x (by omega)
 have hdl:=deep_le x
 have hown:=ownN_pure [n] (by simp) (fun m hm=>by rw [List.mem_singleton.1 hm];omega)
 rw [Inst.build] at hR
 have hwd:IntKind.i64.wrap (x.deep-n.path.length)=x.deep-n.path.length:=w64 _ (by omega)
 generalize hdp:x.deep-(n.path.length:Int)=dp at *
 have hnl:(ints n.path).length=n.path.length:=List.length_map _
 refine K_run hB 100 ?_
 simp [go_sem,Inst.a,Node.a,Node.cs]
 refine K_scope ?_
 refine K_run hB 100 ?_
 simp [go_sem]
 refine K_drawn [] rfl (by rw [hB];kernel_rfl) ?_
 refine K_run hB 100 ?_
 simp [go_sem]
 refine K_dCallP rfl rfl rfl (args:=[x.a]) (f:=124) (by simp [go_sem,Inst.a]) (hdeep) ?_
 refine K_run hB 100 ?_
 simp [go_sem,hnl,hdp,hwd]
 refine K_call rfl rfl rfl (args:=[.fsl [n.t]]) (f:=224) (by simp [go_sem,Node.t]) (by simp [go_sem,hB]) ((Pure.loose hown (by simp [bnd])).spec _ _) ?_
 refine K_run hB 100 ?_
 simp [go_sem]
 refine K_less (Imp.ownB (b:=4) (off:=0) (sz:=1) (cs:=[.fsl [],.i up,.b true,.i 0]) (by simp [oput]) rfl) ?_
 refine K_loopP (α:=Nat×List (List Node)×Int×Option Nat×List Node×Nat×(Nat→AObj)×Nat) (fun (f,ls,low,sq,l,q,τ,ny)=>x.buildGo w up dp f ls low sq l=R∧(f:Int)+ls.length≥dp+2∧((ls.length:Int)≤dp∨ls=[])∧1≤f∧WFine l (n.path.length+ls.length)∧l.length≤3000∧τ 0= .box x.cs∧τ 2= .box [.i w]∧τ 3= .box [.fsl [],.i 0,.b false,.i 0]∧τ 4= .box [.ref q,.i low,.b sq.isNone,.i (sq.getD 0:Nat)]∧τ q= .arr 1 (lysT ls)∧4<q∧q<ny)
  (fun (f,ls,low,sq,l,q,τ,ny)=>⟨sl [(3,.i up),(4,.ptr 0 0),(6,.ptr 2 0),(8,.ptr 3 0),(9,.ptr 4 0),(10,.fn (.func 222) [] [.ptr 0 0,.ptr 2 0]),(11,.i dp),(12,.t (.sl (nodesT l)))],τ,ny⟩) (fun a=>a.1) (dp.toNat+2,[],up,none,[n],5,_,6) ?_ (Imp.slots (by simp [go_sem]) rfl rfl) ?_
 ·refine ⟨hR,by simp only [List.length_nil];omega,.inr rfl,by omega,⟨fun m hm=>by rw [List.mem_singleton.1 hm];exact ho,fun m hm=>by rw [List.mem_singleton.1 hm];omega⟩,by simp,by simp [oput,Inst.cs],by simp [oput],by simp [oput],by simp [oput,setCells],by simp [oput,lysT],by omega,by omega⟩
 clear hR
 rintro ⟨f,ls,low,sq,l,q,τ,ny⟩ ⟨hR,g1,g2,g3,g4,g5,h0,h2,h3,h4,h5,h6,h7⟩
 obtain ⟨f,rfl⟩:∃f',f=f'+1:=⟨f-1,by omega⟩
 have hil:(nodesT l).length=l.length:=List.length_map _
 have hyl:(lysT ls).length=ls.length:=List.length_map _
 have hls:ls.length≤40:=by
  rcases g2 with g2 | g2
  ·omega
  ·rw [g2];simp
 have n0:¬0=ny:=by omega
 have n2:¬2=ny:=by omega
 have n3:¬3=ny:=by omega
 have n4:¬4=ny:=by omega
 have n5:¬q=3:=by omega
 have n6:¬q=4:=by omega
 rw [Inst.buildGo] at hR
 by_cases c0:l=[]
 ·rw [if_pos c0] at hR
  subst hR
  have c0':l.length=0:=by rw [c0];rfl
  cases sq with
  |none=>
   refine K_run hB 60 ?_
   simp [go_sem,hil,c0',h4,h5,hyl,n5,n6,h3]
   rfl
  |some k=>
   refine K_run hB 60 ?_
   simp [go_sem,hil,c0',h4,h5,hyl,n5,n6,h3]
   rfl
 rw [if_neg c0] at hR
 have c0':0<l.length:=List.length_pos_iff.2 c0
 have hx:=expand_pure x l up hl (by omega) (fun m h=>⟨g4.ok m h,by have:=g4.path m h;omega⟩) (fun m h=>by have:=g4.path m h;omega)
 have hnw:=g4.next (x:=x) up
 have hsn:lysT ls++[[.sl (nodesT l)]]=lysT (ls++[l]):=by simp [lysT]
 have hcap:ls.length+1≤mostLen:=by show _≤4294967296;omega
 have hsl:(lysT (ls++[l])).length=ls.length+1:=by rw [lysT,List.length_map];simp
 have n7:¬4=q:=by omega
 have n8:¬0=q:=by omega
 have n9:¬2=q:=by omega
 have na:¬3=q:=by omega
 generalize x.bests l=Bs at *
 obtain ⟨b,is⟩:=Bs
 have hqs:=squeeze_pure x (x.next l up) w hl (by have:=next_len x l up;omega) (fun m h=>⟨hnw.ok m h,by have:=hnw.path m h;omega⟩)
 have hnf:=next_few (x:=x) (l:=l) (up:=up) hw
 have hmf:=most_few (x:=x) (l:=l) (up:=up) hw
 have hsq:=squeeze_len x (x.next l up) w
 have hsw:=hnw.squeeze (x:=x) w
 generalize x.squeeze (x.next l up) w=Q at *
 generalize x.next l up=M at *
 refine K_run hB 60 ?_
 simp [go_sem,hil,c0',h4,h5,hyl,hsn,hcap,n0,n2,n3,n4,n6,n7,n8,n9,na,h0,Inst.cs]
 refine K_run hB 100 ?_
 simp [go_sem,hil,c0',h4,h5,hyl,hsn,hcap,n0,n2,n3,n4,n6,n7,n8,n9,na,h0,Inst.cs]
 refine K_call rfl rfl rfl (args:=[x.a,.t (.sl (nodesT l)),.i up]) (f:=180) (by simp [go_sem,Inst.a]) (by simp [go_sem,hB]) ((hx).spec _ _) ?_
 have b0:¬ny=0:=by omega
 have b1:¬ny+1=0:=by omega
 have b2:¬ny=1:=by omega
 have b3:¬ny=2:=by omega
 have b4:¬ny=3:=by omega
 have b5:¬ny=4:=by omega
 have b6:¬4=ny+1:=by omega
 have hov:=fun (τ':Nat→AObj) (e1:τ' 0= .box x.cs) (e2:τ' 2= .box [.i w])=>over_spec x w M (σ:=τ') (nx:=ny+2) (a:=0) (b:=2) (by omega) (by omega) e1 e2
 have hwQ:WFine Q (n.path.length+(ls++[l]).length):=by rw [List.length_append];exact hsw
 have hwM:WFine M (n.path.length+(ls++[l]).length):=by rw [List.length_append];exact hnw
 cases is with
 |false=>
  have hlw:lowB low (b,false)=low:=rfl
  rw [hlw] at hR
  by_cases c1:dp<(ls.length:Int)+1
  ·rw [if_pos (by omega)] at hR
   subst hR
   cases sq with
   |none=>
    refine K_run hB 100 ?_
    simp [go_sem,expRes,Node.a,Node.cs,h0,h2,h3,h4,h5,n0,n2,n3,n4,n5,n6,n7,n8,n9,na,b0,b1,b2,b3,b4,b5,b6,hsl,Inst.cs,c1]
    simp [Diag.of,Diag.a,Diag.cs]
   |some k=>
    refine K_run hB 100 ?_
    simp [go_sem,expRes,Node.a,Node.cs,h0,h2,h3,h4,h5,n0,n2,n3,n4,n5,n6,n7,n8,n9,na,b0,b1,b2,b3,b4,b5,b6,hsl,Inst.cs,c1]
    rfl
  rw [if_neg (by omega)] at hR
  refine K_run hB 100 ?_
  simp [go_sem,expRes,Node.a,Node.cs,h0,h2,h3,h4,h5,n0,n2,n3,n4,n5,n6,n7,n8,n9,na,b0,b1,b2,b3,b4,b5,b6,hsl,Inst.cs,c1]
  refine K_call rfl rfl rfl (args:=[.t (.sl (nodesT M)),.ptr 0 0,.ptr 2 0]) (f:=222) (by simp [go_sem]) (by simp [go_sem,hB]) (hov _ (by simp [oput,h0,n0,n8,b0,b1,Inst.cs]) (by simp [oput,h2,n2,n9,b1,b2,b3])) ?_
  by_cases c2:x.mostN w<M.length
  ·rw [if_pos c2] at hR
   refine K_run hB 100 ?_
   simp [go_sem,expRes,Node.a,Node.cs,h0,h2,h3,h4,h5,n0,n2,n3,n4,n5,n6,n7,n8,n9,na,b0,b1,b2,b3,b4,b5,b6,hsl,Inst.cs,c2]
   refine K_call rfl rfl rfl (args:=[x.a,.t (.sl (nodesT M)),.i w]) (f:=225) (by simp [go_sem,Inst.a]) (by simp [go_sem,hB]) ((hqs).spec _ _) ?_
   cases sq with
   |none=>
    refine K_run hB 100 ?_
    simp [go_sem,expRes,Node.a,Node.cs,h0,h2,h3,h4,h5,n0,n2,n3,n4,n5,n6,n7,n8,n9,na,b0,b1,b2,b3,b4,b5,b6,hsl,Inst.cs]
    refine Next.mk (f,ls++[l],low,some (ls.length+1),Q,ny,_,ny+2) ?_ (Imp.slots (by simp [go_sem]) rfl rfl) (by simp only;omega)
    exact ⟨hR,by simp only [List.length_append,List.length_cons,List.length_nil];omega,.inl (by simp only [List.length_append,List.length_cons,List.length_nil];omega),by simp only;omega,hwQ,(by have:=hmf c2;simp only;omega),by simp [oput,h0,h2,h3,h4,n0,n2,n3,n4,n7,n8,n9,na,b0,b1,b2,b3,b4,b5,b6,Inst.cs],by simp [oput,h0,h2,h3,h4,n0,n2,n3,n4,n7,n8,n9,na,b0,b1,b2,b3,b4,b5,b6,Inst.cs],by simp [oput,h0,h2,h3,h4,n0,n2,n3,n4,n7,n8,n9,na,b0,b1,b2,b3,b4,b5,b6,Inst.cs],by simp [oput,h0,h2,h3,h4,n0,n2,n3,n4,n7,n8,n9,na,b0,b1,b2,b3,b4,b5,b6,Inst.cs],by simp [oput,h0,h2,h3,h4,n0,n2,n3,n4,n7,n8,n9,na,b0,b1,b2,b3,b4,b5,b6,Inst.cs],by simp only;omega,by simp only;omega⟩
   |some k=>
    refine K_run hB 100 ?_
    simp [go_sem,expRes,Node.a,Node.cs,h0,h2,h3,h4,h5,n0,n2,n3,n4,n5,n6,n7,n8,n9,na,b0,b1,b2,b3,b4,b5,b6,hsl,Inst.cs]
    refine Next.mk (f,ls++[l],low,some k,Q,ny,_,ny+2) ?_ (Imp.slots (by simp [go_sem]) rfl rfl) (by simp only;omega)
    exact ⟨hR,by simp only [List.length_append,List.length_cons,List.length_nil];omega,.inl (by simp only [List.length_append,List.length_cons,List.length_nil];omega),by simp only;omega,hwQ,(by have:=hmf c2;simp only;omega),by simp [oput,h0,h2,h3,h4,n0,n2,n3,n4,n7,n8,n9,na,b0,b1,b2,b3,b4,b5,b6,Inst.cs],by simp [oput,h0,h2,h3,h4,n0,n2,n3,n4,n7,n8,n9,na,b0,b1,b2,b3,b4,b5,b6,Inst.cs],by simp [oput,h0,h2,h3,h4,n0,n2,n3,n4,n7,n8,n9,na,b0,b1,b2,b3,b4,b5,b6,Inst.cs],by simp [oput,h0,h2,h3,h4,n0,n2,n3,n4,n7,n8,n9,na,b0,b1,b2,b3,b4,b5,b6,Inst.cs],by simp [oput,h0,h2,h3,h4,n0,n2,n3,n4,n7,n8,n9,na,b0,b1,b2,b3,b4,b5,b6,Inst.cs],by simp only;omega,by simp only;omega⟩
  ·rw [if_neg c2] at hR
   refine K_run hB 100 ?_
   simp [go_sem,expRes,Node.a,Node.cs,h0,h2,h3,h4,h5,n0,n2,n3,n4,n5,n6,n7,n8,n9,na,b0,b1,b2,b3,b4,b5,b6,hsl,Inst.cs,c2]
   refine Next.mk (f,ls++[l],low,sq,M,ny,_,ny+2) ?_ (Imp.slots (by simp [go_sem]) rfl rfl) (by simp only;omega)
   exact ⟨hR,by simp only [List.length_append,List.length_cons,List.length_nil];omega,.inl (by simp only [List.length_append,List.length_cons,List.length_nil];omega),by simp only;omega,hwM,(hnf (by omega)),by simp [oput,h0,h2,h3,h4,n0,n2,n3,n4,n7,n8,n9,na,b0,b1,b2,b3,b4,b5,b6,Inst.cs],by simp [oput,h0,h2,h3,h4,n0,n2,n3,n4,n7,n8,n9,na,b0,b1,b2,b3,b4,b5,b6,Inst.cs],by simp [oput,h0,h2,h3,h4,n0,n2,n3,n4,n7,n8,n9,na,b0,b1,b2,b3,b4,b5,b6,Inst.cs],by simp [oput,h0,h2,h3,h4,n0,n2,n3,n4,n7,n8,n9,na,b0,b1,b2,b3,b4,b5,b6,Inst.cs],by simp [oput,h0,h2,h3,h4,n0,n2,n3,n4,n7,n8,n9,na,b0,b1,b2,b3,b4,b5,b6,Inst.cs],by simp only;omega,by simp only;omega⟩
 |true=>
  have hlw:lowB low (b,true)=min low b.cost:=rfl
  rw [hlw] at hR
  by_cases c1:dp<(ls.length:Int)+1
  ·rw [if_pos (by omega)] at hR
   subst hR
   cases sq with
   |none=>
    refine K_run hB 100 ?_
    simp [go_sem,expRes,Node.a,Node.cs,h0,h2,h3,h4,h5,n0,n2,n3,n4,n5,n6,n7,n8,n9,na,b0,b1,b2,b3,b4,b5,b6,hsl,Inst.cs,c1]
    simp [Diag.of,Diag.a,Diag.cs]
   |some k=>
    refine K_run hB 100 ?_
    simp [go_sem,expRes,Node.a,Node.cs,h0,h2,h3,h4,h5,n0,n2,n3,n4,n5,n6,n7,n8,n9,na,b0,b1,b2,b3,b4,b5,b6,hsl,Inst.cs,c1]
    rfl
  rw [if_neg (by omega)] at hR
  refine K_run hB 100 ?_
  simp [go_sem,expRes,Node.a,Node.cs,h0,h2,h3,h4,h5,n0,n2,n3,n4,n5,n6,n7,n8,n9,na,b0,b1,b2,b3,b4,b5,b6,hsl,Inst.cs,c1]
  refine K_call rfl rfl rfl (args:=[.t (.sl (nodesT M)),.ptr 0 0,.ptr 2 0]) (f:=222) (by simp [go_sem]) (by simp [go_sem,hB]) (hov _ (by simp [oput,h0,n0,n8,b0,b1,Inst.cs]) (by simp [oput,h2,n2,n9,b1,b2,b3])) ?_
  by_cases c2:x.mostN w<M.length
  ·rw [if_pos c2] at hR
   refine K_run hB 100 ?_
   simp [go_sem,expRes,Node.a,Node.cs,h0,h2,h3,h4,h5,n0,n2,n3,n4,n5,n6,n7,n8,n9,na,b0,b1,b2,b3,b4,b5,b6,hsl,Inst.cs,c2]
   refine K_call rfl rfl rfl (args:=[x.a,.t (.sl (nodesT M)),.i w]) (f:=225) (by simp [go_sem,Inst.a]) (by simp [go_sem,hB]) ((hqs).spec _ _) ?_
   cases sq with
   |none=>
    refine K_run hB 100 ?_
    simp [go_sem,expRes,Node.a,Node.cs,h0,h2,h3,h4,h5,n0,n2,n3,n4,n5,n6,n7,n8,n9,na,b0,b1,b2,b3,b4,b5,b6,hsl,Inst.cs]
    refine Next.mk (f,ls++[l],min low b.cost,some (ls.length+1),Q,ny,_,ny+2) ?_ (Imp.slots (by simp [go_sem]) rfl rfl) (by simp only;omega)
    exact ⟨hR,by simp only [List.length_append,List.length_cons,List.length_nil];omega,.inl (by simp only [List.length_append,List.length_cons,List.length_nil];omega),by simp only;omega,hwQ,(by have:=hmf c2;simp only;omega),by simp [oput,h0,h2,h3,h4,n0,n2,n3,n4,n7,n8,n9,na,b0,b1,b2,b3,b4,b5,b6,Inst.cs],by simp [oput,h0,h2,h3,h4,n0,n2,n3,n4,n7,n8,n9,na,b0,b1,b2,b3,b4,b5,b6,Inst.cs],by simp [oput,h0,h2,h3,h4,n0,n2,n3,n4,n7,n8,n9,na,b0,b1,b2,b3,b4,b5,b6,Inst.cs],by simp [oput,h0,h2,h3,h4,n0,n2,n3,n4,n7,n8,n9,na,b0,b1,b2,b3,b4,b5,b6,Inst.cs],by simp [oput,h0,h2,h3,h4,n0,n2,n3,n4,n7,n8,n9,na,b0,b1,b2,b3,b4,b5,b6,Inst.cs],by simp only;omega,by simp only;omega⟩
   |some k=>
    refine K_run hB 100 ?_
    simp [go_sem,expRes,Node.a,Node.cs,h0,h2,h3,h4,h5,n0,n2,n3,n4,n5,n6,n7,n8,n9,na,b0,b1,b2,b3,b4,b5,b6,hsl,Inst.cs]
    refine Next.mk (f,ls++[l],min low b.cost,some k,Q,ny,_,ny+2) ?_ (Imp.slots (by simp [go_sem]) rfl rfl) (by simp only;omega)
    exact ⟨hR,by simp only [List.length_append,List.length_cons,List.length_nil];omega,.inl (by simp only [List.length_append,List.length_cons,List.length_nil];omega),by simp only;omega,hwQ,(by have:=hmf c2;simp only;omega),by simp [oput,h0,h2,h3,h4,n0,n2,n3,n4,n7,n8,n9,na,b0,b1,b2,b3,b4,b5,b6,Inst.cs],by simp [oput,h0,h2,h3,h4,n0,n2,n3,n4,n7,n8,n9,na,b0,b1,b2,b3,b4,b5,b6,Inst.cs],by simp [oput,h0,h2,h3,h4,n0,n2,n3,n4,n7,n8,n9,na,b0,b1,b2,b3,b4,b5,b6,Inst.cs],by simp [oput,h0,h2,h3,h4,n0,n2,n3,n4,n7,n8,n9,na,b0,b1,b2,b3,b4,b5,b6,Inst.cs],by simp [oput,h0,h2,h3,h4,n0,n2,n3,n4,n7,n8,n9,na,b0,b1,b2,b3,b4,b5,b6,Inst.cs],by simp only;omega,by simp only;omega⟩
  ·rw [if_neg c2] at hR
   refine K_run hB 100 ?_
   simp [go_sem,expRes,Node.a,Node.cs,h0,h2,h3,h4,h5,n0,n2,n3,n4,n5,n6,n7,n8,n9,na,b0,b1,b2,b3,b4,b5,b6,hsl,Inst.cs,c2]
   refine Next.mk (f,ls++[l],min low b.cost,sq,M,ny,_,ny+2) ?_ (Imp.slots (by simp [go_sem]) rfl rfl) (by simp only;omega)
   exact ⟨hR,by simp only [List.length_append,List.length_cons,List.length_nil];omega,.inl (by simp only [List.length_append,List.length_cons,List.length_nil];omega),by simp only;omega,hwM,(hnf (by omega)),by simp [oput,h0,h2,h3,h4,n0,n2,n3,n4,n7,n8,n9,na,b0,b1,b2,b3,b4,b5,b6,Inst.cs],by simp [oput,h0,h2,h3,h4,n0,n2,n3,n4,n7,n8,n9,na,b0,b1,b2,b3,b4,b5,b6,Inst.cs],by simp [oput,h0,h2,h3,h4,n0,n2,n3,n4,n7,n8,n9,na,b0,b1,b2,b3,b4,b5,b6,Inst.cs],by simp [oput,h0,h2,h3,h4,n0,n2,n3,n4,n7,n8,n9,na,b0,b1,b2,b3,b4,b5,b6,Inst.cs],by simp [oput,h0,h2,h3,h4,n0,n2,n3,n4,n7,n8,n9,na,b0,b1,b2,b3,b4,b5,b6,Inst.cs],by simp only;omega,by simp only;omega⟩
end Go.Proofs.YtackfabapangdaaGreat

set_option maxRecDepth 4000
set_option maxHeartbeats 1000000
namespace Go.Proofs.YtackfabapangdaaGreat
open Go Go.Proofs.YtackfabapangdaaGreat.R
structure Ids where
 s:Nat
 h:Nat
 q:Nat
 sb:Nat
 lg:Nat
def planT (p:List (List Int)):List (List T):=p.map rowT
def Done.t (d:Node×Diag):List T:=d.1.t++[.sl (lysT d.2.layers),.i d.2.low,.v (.bool d.2.exact),.i d.2.sure]
def logT (l:List (Node×Diag)):List (List T):=l.map Done.t
def SS.cs (x:Inst) (o:Opt) (st low:Int) (k:Ids) (s:SS):List AV:=
 [.i x.pairs,.i x.cars,.i x.room,.t (.sl (x.stops.map Stop.t)),.i o.width,.i o.order,.i o.budget,.i st,.t (.sl (planT s.plan)),.i s.up,.i low,.i s.steps,.ref k.lg,.ref k.sb,.ptr k.h 0]
structure SBox (x:Inst) (o:Opt) (st low:Int) (k:Ids) (s:SS) (σ:Nat→AObj) (nx:Nat):Prop where
 box:σ k.s= .box (s.cs x o st low k)
 subs:σ k.sb= .arr 10 (nodesT s.subs)
 log:σ k.lg= .arr 14 (logT s.log)
 sh:k.s≠k.h
 qs:k.q≠k.s∧k.q≠k.h∧k.q≠k.sb∧k.q≠k.lg
 hs:k.h≠k.sb∧k.h≠k.lg
 lt:k.s<nx∧k.h<nx∧k.q<nx∧k.sb<nx∧k.lg<nx
structure Runs (k:Ids) (σ:Nat→AObj) (nx:Nat) (k':Ids) (σ':Nat→AObj) (nx':Nat):Prop where
 le:nx≤nx'
 s:k'.s=k.s
 h:k'.h=k.h
 q:k'.q=k.q∨nx≤k'.q
 sb:k'.sb=k.sb∨nx≤k'.sb
 lg:k'.lg=k.lg∨nx≤k'.lg
 keep:∀i,i<nx→i≠k.s→i≠k.h→i≠k.q→i≠k.sb→i≠k.lg→σ' i=σ i
theorem Runs.refl (k:Ids) (σ:Nat→AObj) (nx:Nat):Runs k σ nx k σ nx:=⟨Nat.le_refl _,rfl,rfl,.inl rfl,.inl rfl,.inl rfl,fun _ _ _ _ _ _ _=>rfl⟩
theorem Runs.trans {k k1 k2:Ids} {σ σ1 σ2:Nat→AObj} {nx nx1 nx2:Nat} (h:Runs k σ nx k1 σ1 nx1) (g:Runs k1 σ1 nx1 k2 σ2 nx2):Runs k σ nx k2 σ2 nx2:=by
 have:=h.le
 have:=h.q
 have:=h.sb
 have:=h.lg
 have:=g.q
 have:=g.sb
 have:=g.lg
 have h1:=h.s
 have h2:=h.h
 refine ⟨Nat.le_trans h.le g.le,g.s.trans h.s,g.h.trans h.h,by omega,by omega,by omega,fun i hi a b c d e=>?_⟩
 rw [g.keep i (by omega) (by omega) (by omega) (by omega) (by omega) (by omega),h.keep i hi a b c d e]
def Only (b:Nat) (σ:Nat→AObj) (nx:Nat) (σ':Nat→AObj) (nx':Nat):Prop:=nx≤nx'∧∀i,i<nx→i≠b→σ' i=σ i
theorem Only.runs {k:Ids} {σ σ':Nat→AObj} {nx nx':Nat} (h:Only k.s σ nx σ' nx'):Runs k σ nx k σ' nx':=⟨h.1,rfl,rfl,.inl rfl,.inl rfl,.inl rfl,fun i a b _ _ _ _=>h.2 i a b⟩
structure SOk (x:Inst) (o:Opt) (k:Ids) (s:SS) (σ:Nat→AObj) (nx:Nat):Prop where
 b:SBox x o 0 0 k s σ nx
 q:∃l,σ k.h= .box [.ref k.q,.i o.order]∧σ k.q= .arr 4 (itemsT o.order l)∧l.Perm s.q∧HeapOK o.order l
theorem SOk.only {x:Inst} {o:Opt} {k:Ids} {s t:SS} {σ σ':Nat→AObj} {nx nx':Nat} (h:SOk x o k s σ nx) (hb:SBox x o 0 0 k t σ' nx') (hq:t.q=s.q) (ho:Only k.s σ nx σ' nx'):SOk x o k t σ' nx':=by
 obtain ⟨l,h1,h2,h3,h4⟩:=h.q
 have:=h.b.lt
 have:=h.b.sh
 have:=h.b.qs
 exact ⟨hb,l,by rw [ho.2 _ (by omega) (by omega)];exact h1,by rw [ho.2 _ (by omega) (by omega)];exact h2,by rw [hq];exact h3,h4⟩
theorem SOk.stay {x:Inst} {o:Opt} {k:Ids} {s:SS} {σ σ':Nat→AObj} {nx nx':Nat} (h:SOk x o k s σ nx) (h1:nx≤nx') (h2:∀i,i<nx→σ' i=σ i):SOk x o k s σ' nx'∧Runs k σ nx k σ' nx':=by
 obtain ⟨⟨b1,b2,b3,b4,b5,b6,b7⟩,l,q1,q2,q3,q4⟩:=h
 refine ⟨⟨⟨?_,?_,?_,b4,b5,b6,by omega⟩,l,?_,?_,q3,q4⟩,h1,rfl,rfl,.inl rfl,.inl rfl,.inl rfl,fun i hi _ _ _ _ _=>h2 i hi⟩
 all_goals rw [h2 _ (by omega)];assumption
theorem offer_spec (x:Inst) (o:Opt) (st low:Int) (k:Ids) (s:SS) (n:Node) (is:Bool) (hp:n.path.length<2^31) {σ:Nat→AObj} {nx:Nat} (hb:SBox x o st low k s σ nx):
  CallQ P 129 [.ptr k.s 0,n.a,.b is] σ nx fun r σ' nx'=>r= .tup []∧SBox x o st low k (s.offer (n,is)) σ' nx'∧Only k.s σ nx σ' nx':=by
 refine spec_of Tryz.func129 rfl rfl (by simp [Tryz.f129]) fun B hB hnx hσB=>?_
 simp only [Tryz.f129] at hB ⊢
 obtain ⟨b1,b2,b3,b4,b5,b6,b7⟩:=hb
 rw [SS.cs] at b1
 have hne:¬k.s=nx:=by omega
 have hne':¬nx=k.s:=by omega
 have hsp:=split_pure n.path hp
 have fin:∀(τ:Nat→AObj) (nx':Nat) (t:SS),nx≤nx'→τ k.s= .box (t.cs x o st low k)→t.subs=s.subs→t.log=s.log→(∀i,i<nx→i≠k.s→τ i=σ i)→SBox x o st low k t τ nx'∧Only k.s σ nx τ nx':=fun τ nx' t h1 h2 h3 h4 h5=>by
  have e1:k.sb≠k.s:=fun e=>by rw [e,b1] at b2;cases b2
  have e2:k.lg≠k.s:=fun e=>by rw [e,b1] at b3;cases b3
  exact ⟨⟨h2,by rw [h3,h5 _ (by omega) e1];exact b2,by rw [h4,h5 _ (by omega) e2];exact b3,b4,b5,b6,by omega⟩,h1,h5⟩
 cases is with
 |false=>
  have e0:s.offer (n,false)=s:=by simp [SS.offer]
  rw [e0]
  refine K_run hB 100 ?_
  simp [go_sem,Node.a,Node.cs,b1,hne]
  refine K_drawn [] rfl (by rw [hB];kernel_rfl) ?_
  refine K_run hB 100 ?_
  simp [go_sem,b1,hne]
  exact fin _ _ _ (by omega) (by simp [oput,hne,b1,SS.cs]) rfl rfl fun i h1 h2=>by simp [oput,show ¬i=nx by omega]
 |true=>
  refine K_run hB 100 ?_
  simp [go_sem,Node.a,Node.cs,b1,hne]
  refine K_drawn [] rfl (by rw [hB];kernel_rfl) ?_
  by_cases c:n.cost<s.up
  ·have e0:s.offer (n,true)={s with up:=n.cost,plan:=(splitR n.path).1}:=by rw [SS.offer,if_pos ⟨rfl,c⟩]
   rw [e0]
   refine K_run hB 100 ?_
   simp [go_sem,b1,hne,hne',c]
   refine K_call rfl rfl rfl (args:=[.t (.sl (ints n.path))]) (f:=179) (by simp [go_sem]) (by simp [go_sem,hB]) ((hsp).spec _ _) ?_
   refine K_run hB 100 ?_
   simp [go_sem,b1,hne,hne',c]
   exact fin _ _ {s with up:=n.cost,plan:=(splitR n.path).1} (by omega) (by simp [oput,hne,SS.cs,planT]) rfl rfl fun i h1 h2=>by simp [oput,show ¬i=nx by omega,h2]
  ·have e0:s.offer (n,true)=s:=by rw [SS.offer,if_neg (fun h=>c h.2)]
   rw [e0]
   refine K_run hB 100 ?_
   simp [go_sem,b1,hne,c]
   exact fin _ _ _ (by omega) (by simp [oput,hne,b1,SS.cs]) rfl rfl fun i h1 h2=>by simp [oput,show ¬i=nx by omega]
theorem push_spec (x:Inst) (o:Opt) (k:Ids) (s:SS) (n:Node) (low:Int) (hx:x.stops.length<2^31) (ho:n.s.ok) (hp:n.path.length<2^31) (hs1:s.subs.length<2^30) (hs2:s.q.length<2^30) {σ:Nat→AObj} {nx:Nat} (hb:SOk x o k s σ nx):
  CallQ P 73 [.ptr k.s 0,n.a,.i low] σ nx fun r σ' nx'=>r= .tup []∧∃k',SOk x o k' (x.push low s n) σ' nx'∧Runs k σ nx k' σ' nx':=by
 refine spec_of Tryz.func73 rfl rfl (by simp [Tryz.f73]) fun B hB hnx hσB=>?_
 simp only [Tryz.f73] at hB ⊢
 have hb0:=hb
 obtain ⟨⟨b1,b2,b3,b4,b5,b6,b7⟩,l,q1,q2,q3,q4⟩:=hb
 rw [SS.cs] at b1
 have hne:¬k.s=nx:=by omega
 have hne':¬nx=k.s:=by omega
 have hne2:¬k.sb=nx:=by omega
 have hof:=of_pure x n hx ho
 have hll:=q3.length_eq
 have hil:(ints n.path).length=n.path.length:=List.length_map _
 have hnl:(nodesT s.subs).length=s.subs.length:=List.length_map _
 obtain ⟨b,hbv⟩:∃b,b=max low (x.of n):=⟨_,rfl⟩
 have hsk:=push_or x low s n
 rw [←hbv] at hsk
 have hpu:=fun (τ:Nat→AObj) (m:Nat)=>hput_spec o.order l ⟨b,n.path.length,s.subs.length⟩ (by omega) (σ:=τ) (nx:=m) (h:=k.h) (q:=k.q)
 have hne3:¬k.h=nx:=by omega
 have hne4:¬k.q=nx:=by omega
 refine K_run hB 100 ?_
 simp [go_sem,Node.a,Node.cs,b1,hne]
 refine K_drawn [] rfl (by rw [hB];kernel_rfl) ?_
 refine K_run hB 100 ?_
 simp [go_sem,Inst.a,b1,hne]
 refine K_dCallP rfl rfl rfl (args:=[x.a,n.a]) (f:=35) (by simp [go_sem,Inst.a,Node.a,Node.cs]) (hof) ?_
 by_cases c:s.up≤b
 ·have e0:x.push low s n=s:=by rcases hsk with ⟨h1,_⟩ | ⟨h1,_⟩<;>first | exact h1 | omega
  rw [e0]
  refine K_run hB 100 ?_
  simp [go_sem,b1,hne,←hbv,c]
  exact ⟨k,hb0.stay (by omega) fun i hi=>by simp [oput,show ¬i=nx by omega]⟩
 ·have e0:x.push low s n={s with q:=s.q++[⟨b,n.path.length,s.subs.length⟩],subs:=s.subs++[n]}:=by rcases hsk with ⟨h1,h2⟩ | ⟨_,h1⟩<;>first | exact h1 | omega
  rw [e0]
  refine K_run hB 100 ?_
  simp [go_sem,b1,hne,←hbv,c]
  refine K_drawnZ [] 14 _ rfl (by rw [hB];kernel_rfl) (by kernel_rfl) rfl ?_
  refine K_run hB 100 ?_
  simp [go_sem,b1,b2,hne,hne2,hil,hnl]
  refine K_callQ rfl rfl rfl (args:=[.ptr k.h 0,.agg [.i b,.i n.path.length,.i s.subs.length]]) (f:=126) (by simp [go_sem]) (by simp [go_sem,hB]) (hpu _ (nx+1) (by omega) (by simp [oput,hne3,q1]) (by omega) (by simp [oput,hne4,q2])) fun r σ' nx' hq=>?_
  obtain ⟨rfl,g1,q',g2,g3,g4,g5,g6⟩:=hq
  have f0:=g6 nx (by omega) (by omega) (by omega)
  have f1:=g6 k.s (by omega) (by omega) (by omega)
  have f2:=g6 k.sb (by omega) (by omega) (by omega)
  simp only [oput,hne,hne2,if_true,if_false,b1,b2] at f0 f1 f2
  have hcap:s.subs.length+1≤mostLen:=by show _≤4294967296;omega
  have happ:nodesT s.subs++[n.t]=nodesT (s.subs++[n]):=by simp [nodesT]
  have hnl2:=nodesT_len s.subs
  have hne5:¬k.s=k.sb:=fun e=>by rw [e,b2] at b1;cases b1
  have hne6:¬k.s=nx':=by omega
  have hne7:¬nx'=k.s:=by omega
  refine K_run hB 100 ?_
  simp [go_sem]
  refine K_drawnF [7,10] [0] rfl (by rw [hB];kernel_rfl) (by kernel_rfl) fun ht hf'=>?_
  refine K_run hB 22 ?_
  simp [go_sem,ht,hf',f0,f1,f2,hne5,hne6,hne7,hcap,hnl,hnl2,Node.t]
  have hls:k.lg≠k.sb:=fun e=>by rw [e,b2] at b3;cases b3
  have hls2:k.lg≠k.s:=fun e=>by rw [e,b1] at b3;cases b3
  have hg:∀(y z:AObj) (i:Nat),i<nx'→i≠k.s→i≠k.sb→oput (oput (oput σ' k.sb .dead) nx' y) k.s z i=σ' i:=fun y z i h1 h2 h3=>by simp [oput,h2,h3,show ¬i=nx' by omega]
  have hk:∀i,i<nx→i≠k.h→i≠k.q→σ' i=σ i:=fun i h1 h2 h3=>by rw [g6 i (by omega) h2 h3];simp [oput,show ¬i=nx by omega]
  refine ⟨by omega,{k with q:=q',sb:=nx'},⟨⟨?_,?_,?_,b4,?_,?_,?_⟩,putH o.order l ⟨b,n.path.length,s.subs.length⟩,?_,?_,(putH_perm _ _ _).trans (q3.append_right _),putH_ok q4 _⟩,?_⟩
  ·simp [oput,SS.cs]
  ·simp [oput,hne7,←happ,Node.t]
  ·exact (hg _ _ _ (by omega) hls2 hls).trans ((hk _ (by omega) (by omega) (by omega)).trans b3)
  ·simp only;omega
  ·simp only;omega
  ·simp only;omega
  ·exact (hg _ _ k.h (by omega) (by omega) (by omega)).trans g4
  ·exact (hg _ _ q' (by omega) (by omega) (by omega)).trans g5
  ·exact ⟨by omega,rfl,rfl,.inr (by simp only;omega),.inr (by simp only;omega),.inl rfl,fun i h1 h2 h3 h4 h5 _=>(hg _ _ i (by omega) h2 h5).trans (hk i h1 h3 h4)⟩
end Go.Proofs.YtackfabapangdaaGreat

set_option maxRecDepth 4000
set_option maxHeartbeats 2000000
namespace Go.Proofs.YtackfabapangdaaGreat
open Go Go.Proofs.YtackfabapangdaaGreat.R
theorem logT_len (l:List (Node×Diag)):∀y∈logT l,y.length=14:=by
 intro y hy
 simp only [logT,List.mem_map] at hy
 obtain ⟨n,_,rfl⟩:=hy
 rfl
theorem lysT_get (l:List (List Node)) {k:Nat} (h:k<l.length) (h':k<(lysT l).length):(lysT l)[k]'h'=[.sl (nodesT l[k])]:=by simp [lysT]
theorem sizes_take (ls:List (List Node)) {k:Nat} (h:k<ls.length):sizes (ls.take (k+1))=sizes (ls.take k)+ls[k].length:=by
 rw [sizes,sizes,List.take_succ_eq_append_getElem h,List.map_append,List.sum_append]
 simp
theorem sizes_mono (ls:List (List Node)) (k:Nat):sizes (ls.take k)≤sizes ls:=by
 conv=>rhs;rw [←List.take_append_drop k ls]
 rw [sizes,sizes,List.map_append,List.sum_append]
 omega
theorem diagram_spec (x:Inst) (o:Opt) (k:Ids) (s:SS) (n:Node) (hx:x.stops.length<2^31) (hw:o.width≤3000) (ho:n.s.ok) (hp:n.path.length<2^29) (hl:s.log.length<2^30) (hd:(x.build n o.width s.up).layers.length<2^30) (hst:0≤s.steps∧s.steps+sizes (x.build n o.width s.up).layers<2^62) {σ:Nat→AObj} {nx:Nat} (hb:SOk x o k s σ nx):
  CallQ P 131 [.ptr k.s 0,n.a] σ nx fun r σ' nx'=>r=(x.build n o.width s.up).a∧∃k',SOk x o k' (s.dia n (x.build n o.width s.up)) σ' nx'∧Runs k σ nx k' σ' nx':=by
 refine spec_of Tryz.func131 rfl rfl (by simp [Tryz.f131]) fun B hB hnx hσB=>?_
 simp only [Tryz.f131] at hB ⊢
 have hb0:=hb
 obtain ⟨⟨b1,b2,b3,b4,b5,b6,b7⟩,l,q1,q2,q3,q4⟩:=hb
 rw [SS.cs] at b1
 have hbd:=build_pure x n o.width s.up hx hw ho hp
 generalize x.build n o.width s.up=D at *
 have hlen:(lysT D.layers).length=D.layers.length:=List.length_map _
 have ne1:¬k.s=nx:=by omega
 have ne2:¬k.s=nx+1:=by omega
 have ne3:¬k.s=nx+1+1:=by omega
 refine K_run hB 100 ?_
 simp [go_sem,Node.a,Node.cs,b1,ne1,ne2]
 refine K_drawnF [16,17] [0,1,2,3,4,5,6,7,8,9,10,11,12,13,14,15] rfl (by rw [hB];kernel_rfl) (by kernel_rfl) fun ht hf'=>?_
 refine K_run hB 100 ?_
 simp [go_sem,ht,hf',Inst.a,b1,ne1,ne2]
 refine K_dCallP rfl rfl rfl (args:=[x.a,n.a,.i o.width,.i s.up]) (f:=182) (by simp [go_sem,Inst.a,Node.a,Node.cs]) (hbd) ?_
 refine K_run hB 100 ?_
 simp [go_sem,ht,hf',Diag.a,Diag.cs,b1,ne1,ne2,ne3,hlen]
 refine K_loopP (α:=Nat×(Nat→AObj)) (fun (j,τ)=>j≤D.layers.length∧τ k.s= .box (SS.cs x o 0 0 k {s with steps:=s.steps+sizes (D.layers.take j)})∧τ nx= .box n.cs∧τ (nx+1)= .box [.fsl [],.i 0,.b false,.i 0]∧τ (nx+1+1)= .box D.cs∧∀i,i<nx→i≠k.s→τ i=σ i)
  (fun (j,τ)=>⟨sl [(0,.ptr k.s 0),(3,.ptr nx 0),(4,.ptr (nx+1) 0),(5,.ptr (nx+1+1) 0),(25,.t (.sl (lysT D.layers))),(26,.i D.layers.length),(27,.i j)],τ,nx+1+1+1⟩) (fun a=>D.layers.length-a.1) (0,_)
  ⟨Nat.zero_le _,?_,?_,?_,?_,?_⟩ (Imp.slots (by simp [go_sem]) rfl rfl) ?_
 ·simp [oput,b1,ne1,ne2,ne3,SS.cs,sizes]
 ·simp [go_sem,oput,Node.cs]
 ·simp [go_sem,oput]
 ·simp [go_sem,oput,Diag.cs]
 ·exact fun i h1 h2=>by simp [oput,show ¬i=nx by omega,show ¬i=nx+1 by omega,show ¬i=nx+1+1 by omega]
 rintro ⟨j,τ⟩ ⟨g1,g2,g3,g4,g5,g6⟩
 rw [SS.cs] at g2
 simp only at g2
 refine K_run hB 60 ?_
 simp [go_sem]
 refine fork_dec (fun hj=>?_) (fun hj=>?_)
 ·have hgj:∀h,(lysT D.layers)[j]'h=[.sl (nodesT D.layers[j])]:=fun h=>lysT_get D.layers hj h
  have hsz:=sizes_take D.layers hj
  have hmo:=sizes_mono D.layers (j+1)
  have hnl:(nodesT D.layers[j]).length=D.layers[j].length:=List.length_map _
  have wj:IntKind.i64.wrap ((j:Int)+1)=((j+1:Nat):Int):=by rw [w64 _ (by omega)];omega
  have ws:IntKind.i64.wrap (s.steps+(sizes (D.layers.take j):Int)+(D.layers[j].length:Int))=s.steps+(sizes (D.layers.take (j+1)):Int):=by rw [w64 _ (by omega)];omega
  generalize D.layers[j]=L at *
  generalize sizes (D.layers.take j)=A at *
  generalize hA':sizes (D.layers.take (j+1))=A' at *
  simp [go_sem,hlen,hj,hgj,hnl,g2,wj,ws]
  refine Next.mk (j+1,_) ⟨by omega,?_,?_,?_,?_,?_⟩ (Imp.slots (by simp [go_sem]) rfl rfl) (by simp only;omega)
  ·simp [oput,SS.cs,hA']
  ·simp [oput,ne1,g3,show ¬nx=k.s by omega]
  ·simp [oput,g4,show ¬nx+1=k.s by omega]
  ·simp [oput,g5,show ¬nx+1+1=k.s by omega]
  ·exact fun i h1 h2=>by simp [oput,h2,g6 i h1 h2]
 ·have:j=D.layers.length:=by omega
  subst this
  rw [List.take_length] at g2
  obtain ⟨A,hA⟩:∃A,A=sizes D.layers:=⟨_,rfl⟩
  rw [←hA] at g2
  have hcap:s.log.length+1≤mostLen:=by show _≤4294967296;omega
  have hll:(logT s.log).length=s.log.length:=List.length_map _
  have hl14:=logT_len s.log
  have f1:=(g6 k.lg (by omega) (fun e=>by rw [e,b1] at b3;cases b3)).trans b3
  have ne4:¬k.s=k.lg:=fun e=>by rw [←e,b1] at b3;cases b3
  have ne5:¬k.s=nx+1+1+1:=by omega
  have ne6:¬nx+1+1+1=k.s:=by omega
  have ne7:¬k.lg=nx:=by omega
  have ne8:¬nx=k.lg:=by omega
  have ne9:¬nx+1=k.lg:=by omega
  have nea:¬nx+1+1=k.lg:=by omega
  have neb:¬nx=k.s:=by omega
  have nec:¬nx+1=k.s:=by omega
  have ned:¬nx+1+1=k.s:=by omega
  have e1:=g3
  rw [Node.cs] at e1
  have e2:=g5
  rw [Diag.cs] at e2
  simp [go_sem]
  refine K_drawnF [10,14] [0] rfl (by rw [hB];kernel_rfl) (by kernel_rfl) fun ht hf'=>?_
  refine K_run hB 22 ?_
  simp [go_sem,ht,hf',g2,f1,e1,e2,g4,ne1,ne2,ne3,ne4,ne5,ne6,ne7,ne8,ne9,nea,neb,nec,ned,hcap,hll,hl14]
  have hls:k.sb≠k.lg:=fun e=>by rw [e,b3] at b2;cases b2
  have hls2:k.sb≠k.s:=fun e=>by rw [e,b1] at b2;cases b2
  have hg:∀(y z u:AObj) (i:Nat),i<nx→i≠k.s→i≠k.lg→oput (oput (oput (oput τ k.lg .dead) (nx+1+1+1) y) k.s z) (nx+1) u i=σ i:=fun y z u i h1 h2 h3=>by simp [oput,h2,h3,show ¬i=nx+1 by omega,show ¬i=nx+1+1+1 by omega,g6 i h1 h2]
  refine ⟨by omega,{k with lg:=nx+1+1+1},⟨⟨?_,?_,?_,b4,?_,?_,?_⟩,l,?_,?_,q3,q4⟩,?_⟩
  ·simp [oput,SS.cs,SS.dia,hA,ne2]
  ·exact (hg _ _ _ k.sb (by omega) hls2 hls).trans b2
  ·simp [oput,SS.dia,logT,Done.t,Node.t,show ¬nx+1+1=nx by omega,ne6]
  ·simp only;omega
  ·simp only;omega
  ·simp only;omega
  ·exact (hg _ _ _ k.h (by omega) (by omega) (by omega)).trans q1
  ·exact (hg _ _ _ k.q (by omega) (by omega) (by omega)).trans q2
  ·exact ⟨by omega,rfl,rfl,.inl rfl,.inl rfl,.inr (by simp only;omega),fun i h1 h2 h3 h4 h5 h6=>hg _ _ _ i h1 h2 h6⟩
end Go.Proofs.YtackfabapangdaaGreat

set_option maxRecDepth 4000
set_option maxHeartbeats 2000000
namespace Go.Proofs.YtackfabapangdaaGreat
open Go Go.Proofs.YtackfabapangdaaGreat.R
structure LFine (ls:List (List Node)):Prop where
 len:ls.length<2^30
 few:∀l∈ls,l.length<2^20
 ok:∀l∈ls,∀n∈l,n.s.ok∧n.path.length<2^29
theorem offers_take (x:Inst) (s:SS) (ls:List (List Node)) {j:Nat} (h:j<ls.length):x.offers s (ls.take (j+1))=(x.offers s (ls.take j)).offer (x.bests ls[j]):=by
 rw [Inst.offers,List.take_succ_eq_append_getElem h,List.foldl_append,List.foldl_cons,List.foldl_nil]
 rfl
theorem pushes_take (x:Inst) (low:Int) (s:SS) (l:List Node) {j:Nat} (h:j<l.length):(l.take (j+1)).foldl (x.push low) s=x.push low ((l.take j).foldl (x.push low) s) l[j]:=by
 rw [List.take_succ_eq_append_getElem h,List.foldl_append,List.foldl_cons,List.foldl_nil]
theorem pushes_len (x:Inst) (low:Int):∀(l:List Node) (s:SS),(l.foldl (x.push low) s).subs.length≤s.subs.length+l.length∧(l.foldl (x.push low) s).q.length≤s.q.length+l.length
 |[],s=>⟨Nat.le_refl _,Nat.le_refl _⟩
 |n :: l,s=>by
  obtain ⟨h1,h2⟩:=pushes_len x low l (x.push low s n)
  have:(x.push low s n).subs.length≤s.subs.length+1∧(x.push low s n).q.length≤s.q.length+1:=by
   rcases push_or x low s n with ⟨e,_⟩ | ⟨_,e⟩<;>rw [e]<;>simp
  rw [List.foldl_cons,List.length_cons]
  omega
theorem branch_spec (x:Inst) (o:Opt) (k:Ids) (s:SS) (D:Diag) (hx:x.stops.length<2^31) (hd:LFine D.layers) (hs0:1≤D.sure) (hs1:D.sure≤D.layers.length) (hn1:s.subs.length<2^29) (hn2:s.q.length<2^29) {σ:Nat→AObj} {nx:Nat} (hb:SOk x o k s σ nx):
  CallQ P 133 [.ptr k.s 0,D.a] σ nx fun r σ' nx'=>r= .tup []∧∃k',SOk x o k' (x.branch D s) σ' nx'∧Runs k σ nx k' σ' nx':=by
 generalize hR:x.branch D s=R
 refine spec_of Tryz.func133 rfl rfl (by simp [Tryz.f133]) fun B hB hnx hσB=>?_
 simp only [Tryz.f133] at hB ⊢
 have hlt:=hb.b.lt
 have hlen:(lysT D.layers).length=D.layers.length:=List.length_map _
 obtain ⟨last,hlast⟩:∃n,n=D.sure-1:=⟨_,rfl⟩
 have w0:IntKind.i64.wrap ((D.sure:Int)-1)=(last:Int):=by have:=hd.len;rw [w64 _ (by omega)];omega
 have hll:last<D.layers.length:=by omega
 have hrow:∀y∈lysT D.layers,y.length=1:=fun y hy=>by
  simp only [lysT,List.mem_map] at hy
  obtain ⟨_,_,rfl⟩:=hy
  rfl
 have htk:((lysT D.layers).take last).length=last:=by rw [List.length_take];omega
 have hle:last≤D.layers.length:=by omega
 refine K_run hB 100 ?_
 simp [go_sem,Diag.a,Diag.cs,w0,hlen,if_pos hrow,htk,hle]
 refine K_loopP (α:=Nat×(Nat→AObj)×Nat) (fun (j,τ,m)=>j≤last∧SOk x o k (x.offers s (D.layers.take j)) τ m∧nx<m∧τ nx= .box D.cs∧Runs k σ nx k τ m)
  (fun (j,τ,m)=>⟨sl [(0,.ptr k.s 0),(3,.ptr nx 0),(4,.i last),(18,.t (.sl ((lysT D.layers).take last))),(19,.i last),(20,.i j)],τ,m⟩) (fun a=>last-a.1) (0,_,_)
  ⟨Nat.zero_le _,?_,Nat.lt_succ_self _,?_,?_⟩ (Imp.slots (by simp [go_sem]) rfl rfl) ?_
 ·exact (hb.stay (by omega) fun i hi=>by simp [oput,show ¬i=nx by omega]).1
 ·simp [go_sem,oput,Diag.cs]
 ·exact (hb.stay (by omega) fun i hi=>by simp [oput,show ¬i=nx by omega]).2
 rintro ⟨j,τ,m⟩ ⟨g1,g2,g3,g4,g5⟩
 refine K_run hB 60 ?_
 simp [go_sem]
 refine fork_dec (fun hj=>?_) (fun hj=>?_)
 ·have hgj:∀h,((lysT D.layers).take last)[j]'h=[.sl (nodesT D.layers[j])]:=fun h=>by rw [List.getElem_take];exact lysT_get D.layers (by omega) _
  have wj:IntKind.i64.wrap ((j:Int)+1)=((j+1:Nat):Int):=by have:=hd.len;rw [w64 _ (by omega)];omega
  have hof:=offers_take x s D.layers (show j<D.layers.length by omega)
  have hmem:D.layers[j]∈D.layers:=List.getElem_mem _
  have hbp:=bests_path (x:=x) (k:=2^29) fun n hn=>Nat.le_of_lt (hd.ok _ hmem n hn).2
  have hex:=expand_pure x D.layers[j] (x.offers s (D.layers.take j)).up hx (hd.few _ hmem) (fun n hn=>⟨(hd.ok _ hmem n hn).1,by have:=(hd.ok _ hmem n hn).2;omega⟩) (fun n hn=>by have:=(hd.ok _ hmem n hn).2;omega)
  generalize D.layers[j]=L at *
  generalize hS:x.offers s (D.layers.take j)=S at *
  generalize hS2:x.offers s (D.layers.take (j+1))=S2 at *
  have b1:=g2.b.box
  rw [SS.cs] at b1
  have hlt2:=g2.b.lt
  have ne1:¬k.s=m:=by omega
  have ne2:¬m=k.s:=by omega
  obtain ⟨bn,bi,hbk⟩:∃bn bi,x.bests L=(bn,bi):=⟨_,_,rfl⟩
  rw [hbk] at hof hbp hex
  simp only at hbp
  simp [go_sem,htk,hj,hgj]
  refine K_drawnF [15,17] [0,1,2,3,4,5,6,7,8,9,10,11,12,13,14] rfl (by rw [hB];kernel_rfl) (by kernel_rfl) fun ht hf'=>?_
  refine K_run hB 100 ?_
  simp [go_sem,ht,hf',b1,ne1,ne2,Inst.a]
  refine K_dCallP rfl rfl rfl (args:=[x.a,.t (.sl (nodesT L)),.i S.up]) (f:=180) (by simp [go_sem,Inst.a]) (hex) ?_
  refine K_run hB 100 ?_
  simp [go_sem,ht,hf',b1,ne1,ne2,expRes,Node.a,Node.cs]
  have hb':=fun τ' (h:∀i,i<m→τ' i=τ i)=>g2.stay (σ':=τ') (nx':=m+1) (by omega) h
  refine K_callQ rfl rfl rfl (args:=[.ptr k.s 0,bn.a,.b bi]) (f:=129) (by simp [go_sem,Node.a,Node.cs]) (by simp [go_sem,hB]) (offer_spec x o 0 0 k S bn bi (Nat.lt_of_le_of_lt hbp (by decide)) (nx:=m+1) (hb' _ fun i hi=>by simp [oput,show ¬i=m by omega]).1.b) fun r σ' nx' hq=>?_
  obtain ⟨rfl,c1,c2⟩:=hq
  have hτ:∀i,i<m→i≠k.s→σ' i=τ i:=fun i h1 h2=>by rw [c2.2 i (by omega) h2];simp [oput,show ¬i=m by omega]
  have c4:=c2.1
  refine K_run hB 100 ?_
  simp [go_sem,wj]
  refine Next.mk (j+1,σ',nx') ⟨by omega,?_,?_,?_,?_⟩ (Imp.slots (by simp [go_sem]) rfl rfl) (by simp only;omega)
  ·show SOk x o k (x.offers s (D.layers.take (j+1))) σ' nx'
   rw [hS2,hof]
   exact g2.only c1 (offer_up S (bn,bi)).2.2.1 ⟨by omega,hτ⟩
  ·simp only;omega
  ·exact (hτ _ g3 (by omega)).trans g4
  ·show Runs k σ nx k σ' nx'
   exact g5.trans (Only.runs ⟨by omega,hτ⟩)
 ·have:j=last:=by omega
  subst this
  have e4:=g4
  rw [Diag.cs] at e4
  generalize hS:x.offers s (D.layers.take j)=S at *
  have hgl:∀h,(lysT D.layers)[j]'h=[.sl (nodesT D.layers[j])]:=fun h=>lysT_get D.layers hll h
  have hR2:(D.layers[j]).foldl (x.push D.low) S=R:=by
   rw [←hR,Inst.branch,←hlast,hS,List.getD_eq_getElem?_getD,List.getElem?_eq_getElem hll]
   rfl
  have hmem:D.layers[j]∈D.layers:=List.getElem_mem _
  have hL1:=hd.few _ hmem
  have hL2:=hd.ok _ hmem
  generalize D.layers[j]=L at *
  have hnl:(nodesT L).length=L.length:=List.length_map _
  simp [go_sem,e4,hlen,hll,hgl,hnl]
  refine K_loopP (α:=Nat×Ids×(Nat→AObj)×Nat) (fun (i,k',τ1,m1)=>i≤L.length∧SOk x o k' ((L.take i).foldl (x.push D.low) S) τ1 m1∧nx<m1∧τ1 nx= .box D.cs∧Runs k τ m k' τ1 m1)
   (fun (i,k',τ,m)=>⟨sl [(0,.ptr k.s 0),(3,.ptr nx 0),(48,.t (.sl (nodesT L))),(49,.i L.length),(50,.i i)],τ,m⟩) (fun a=>L.length-a.1) (0,k,τ,m)
   ⟨Nat.zero_le _,g2,g3,g4,Runs.refl _ _ _⟩ (Imp.slots (by simp [go_sem]) rfl rfl) ?_
  rintro ⟨i,k',τ',m'⟩ ⟨i1,i2,i3,i4,i5⟩
  refine K_run hB 60 ?_
  simp [go_sem]
  refine fork_dec (fun hi=>?_) (fun hi=>?_)
  ·have hgi:∀h,(nodesT L)[i]'h=L[i].t:=fun h=>nodesT_get L hi
   have wi:IntKind.i64.wrap ((i:Int)+1)=((i+1:Nat):Int):=by rw [w64 _ (by omega)];omega
   have hpt:=pushes_take x D.low S L hi
   obtain ⟨hp1,hp2⟩:=pushes_len x D.low (L.take i) S
   obtain ⟨ho1,ho2⟩:=hL2 L[i] (List.getElem_mem _)
   have htl:(L.take i).length≤2^20:=by rw [List.length_take];omega
   generalize L[i]=n at *
   generalize (L.take i).foldl (x.push D.low) S=S1 at *
   generalize hS2:(L.take (i+1)).foldl (x.push D.low) S=S2 at *
   rw [Diag.cs] at i4
   have hss:S.subs=s.subs∧S.q=s.q:=by
    have:=offers_up x (D.layers.take j) s
    rw [hS] at this
    exact ⟨this.2.1,this.2.2.1⟩
   rw [hss.1] at hp1
   rw [hss.2] at hp2
   have ne1:¬nx=m':=by omega
   have es:k'.s=k.s:=i5.s
   have hb':=fun τ1 (h:∀i,i<m'→τ1 i=τ' i)=>i2.stay (σ':=τ1) (nx':=m'+1) (by omega) h
   simp [go_sem,hnl,hi,hgi,Node.t,i4,ne1]
   refine K_callQ rfl rfl rfl (args:=[.ptr k'.s 0,n.a,.i D.low]) (f:=73) (by simp [go_sem,Node.a,Node.cs,es]) (by simp [go_sem,hB]) (push_spec x o k' S1 n D.low hx ho1 (by omega) (by omega) (by omega) (nx:=m'+1) (hb' _ fun i hi=>by simp [oput,show ¬i=m' by omega]).1) fun r σ' nx' hq=>?_
   obtain ⟨rfl,k2,c1,c2⟩:=hq
   have hr:=(hb' _ fun i hi=>by simp only [oput];rw [if_neg (show ¬i=m' by omega),if_neg (show ¬i=m' by omega)]).2.trans c2
   have h0:=i2.b.lt
   have h1:=i5.q
   have h2:=i5.sb
   have h3:=i5.lg
   have h4:=i5.h
   have h5:=hb.b.lt
   have hkn:σ' nx=τ' nx:=by rw [hr.keep nx i3 (by omega) (by omega) (by omega) (by omega) (by omega)]
   have hle:=hr.le
   refine K_run hB 100 ?_
   simp [go_sem,wi]
   refine Next.mk (i+1,k2,σ',nx') ⟨by omega,?_,?_,?_,?_⟩ (Imp.slots (by simp [go_sem]) rfl rfl) (by simp only;omega)
   ·show SOk x o k2 ((L.take (i+1)).foldl (x.push D.low) S) σ' nx'
    rw [hS2,hpt]
    exact c1
   ·simp only;omega
   ·exact hkn.trans (i4.trans (by rw [Diag.cs]))
   ·exact i5.trans hr
  ·have:i=L.length:=by omega
   subst this
   rw [List.take_length,hR2] at i2
   simp [go_sem]
   exact ⟨by omega,k',i2,g5.trans i5⟩
end Go.Proofs.YtackfabapangdaaGreat

set_option maxRecDepth 4000
set_option maxHeartbeats 4000000
namespace Go.Proofs.YtackfabapangdaaGreat
open Go Go.Proofs.YtackfabapangdaaGreat.R
structure LookPre (x:Inst) (w:Int) (n:Node):Prop where
 st:x.stops.length<2^31
 wi:w≤3000
 ok:n.s.ok
 path:n.path.length<2^28
 nar:∀up,0≤(x.narrow n w up).2.2∧(x.narrow n w up).2.2<2^40∧(x.narrow n w up).1.path.length<2^31
 lay:∀up,LFine (x.build n w up).layers∧sizes (x.build n w up).layers<2^40
 most:x.mostN w<2^20
 exa:∀up,0≤(x.exact n up (x.mostN w)).2.2.2∧(x.exact n up (x.mostN w)).2.2.2<2^40∧(x.exact n up (x.mostN w)).1.path.length<2^31
structure SPre (s:SS):Prop where
 steps:0≤s.steps∧s.steps<2^60
 subs:s.subs.length<2^29
 q:s.q.length<2^29
 log:s.log.length<2^29
theorem SOk.turn {x:Inst} {o:Opt} {k:Ids} {s:SS} {σ:Nat→AObj} {nx:Nat} (h:SOk x o k s σ nx) {t:SS} {τ:Nat→AObj} {nx':Nat} (h1:τ k.s= .box (t.cs x o 0 0 k)) (h2:t.subs=s.subs) (h3:t.q=s.q) (h4:t.log=s.log) (ho:Only k.s σ nx τ nx'):SOk x o k t τ nx':=by
 obtain ⟨b1,b2,b3,b4,b5,b6,b7⟩:=h.b
 rw [SS.cs] at b1
 have e1:k.sb≠k.s:=fun e=>by rw [e,b1] at b2;cases b2
 have e2:k.lg≠k.s:=fun e=>by rw [e,b1] at b3;cases b3
 have:=ho.1
 exact h.only ⟨h1,by rw [h2,ho.2 _ (by omega) e1];exact b2,by rw [h4,ho.2 _ (by omega) e2];exact b3,b4,b5,b6,by omega⟩ h3 ho
theorem slook_spec (x:Inst) (o:Opt) (k:Ids) (s:SS) (n:Node) (hp:LookPre x o.width n) (hs:SPre s) {σ:Nat→AObj} {nx:Nat} (hb:SOk x o k s σ nx):
  CallQ P 77 [.ptr k.s 0,n.a] σ nx fun r σ' nx'=>r= .tup []∧∃k',SOk x o k' (x.lookS o.width s n) σ' nx'∧Runs k σ nx k' σ' nx':=by
 generalize hR:x.lookS o.width s n=R
 refine spec_of Tryz.func77 rfl rfl (by simp [Tryz.f77]) fun B hB hnx hσB=>?_
 simp only [Tryz.f77] at hB ⊢
 have hlt:=hb.b.lt
 have b1:=hb.b.box
 rw [SS.cs] at b1
 have hn:=nbest_pure x n o.width s.up hp.st hp.wi hp.ok (by have:=hp.path;omega)
 obtain ⟨p1,p2,p3⟩:=hp.nar s.up
 have hst:=hs.steps
 rw [Inst.lookS,SS.nar] at hR
 rw [naRes] at hn
 generalize (x.narrow n o.width s.up).2.2=v at *
 generalize (x.narrow n o.width s.up).2.1=bi at *
 generalize (x.narrow n o.width s.up).1=bn at *
 have ne1:¬k.s=nx:=by omega
 have ne2:¬k.s=nx+1:=by omega
 have ne3:¬nx=k.s:=by omega
 have ne4:¬nx+1=k.s:=by omega
 have w1:IntKind.i64.wrap (s.steps+v)=s.steps+v:=w64 _ (by omega)
 refine K_run hB 100 ?_
 simp [go_sem,Node.a,Node.cs,b1,ne1]
 refine K_drawnF [20,21] [0,1,2,3,4,5,6,7,8,9,10,11,12,13,14,15,16,17,18,19] rfl (by rw [hB];kernel_rfl) (by kernel_rfl) fun ht hf'=>?_
 refine K_run hB 100 ?_
 simp [go_sem,ht,hf',Inst.a,b1,ne1]
 refine K_dCallP rfl rfl rfl (args:=[x.a,n.a,.i o.width,.i s.up]) (f:=130) (by simp [go_sem,Inst.a,Node.a,Node.cs]) (hn) ?_
 refine K_run hB 100 ?_
 simp [go_sem,ht,hf',Inst.a,b1,ne1,ne2,ne3,ne4,w1,Node.a,Node.cs]
 have hs1:=fun (τ:Nat→AObj) (h1:τ k.s= .box ((s.plus v).cs x o 0 0 k)) (h2:∀i,i<nx→i≠k.s→τ i=σ i)=>hb.turn (t:=s.plus v) (nx':=nx+1+1) h1 rfl rfl rfl ⟨by omega,h2⟩
 refine K_callQ rfl rfl rfl (args:=[.ptr k.s 0,bn.a,.b bi]) (f:=129) (by simp [go_sem,Node.a,Node.cs]) (by simp [go_sem,hB]) (offer_spec x o 0 0 k (s.plus v) bn bi p3 (nx:=nx+1+1) (hs1 _ (by simp [oput,SS.cs,SS.plus]) fun i h1 h2=>by simp [oput,h2,show ¬i=nx by omega,show ¬i=nx+1 by omega]).b) fun r σ2 nx2 hq=>?_
 obtain ⟨rfl,c1,c2⟩:=hq
 have c3:=(hs1 _ (by simp [oput,SS.cs,SS.plus]) fun i h1 h2=>by simp only [oput];rw [if_neg h2,if_neg (show ¬i=nx+1 by omega),if_neg (show ¬i=nx+1 by omega),if_neg (show ¬i=nx by omega)]).only c1 (offer_up (s.plus v) (bn,bi)).2.2.1 c2
 have hle2:=c2.1
 have n2:σ2 nx= .box n.cs:=by rw [c2.2 nx (by omega) ne3];simp [oput,ne3,Node.cs]
 have r2:Runs k σ nx k σ2 nx2:=Only.runs ⟨by omega,fun i h1 h2=>by rw [c2.2 i (by omega) h2];simp [oput,h2,show ¬i=nx by omega,show ¬i=nx+1 by omega]⟩
 have hpre:((s.plus v).offer (bn,bi)).subs=s.subs∧((s.plus v).offer (bn,bi)).q=s.q∧((s.plus v).offer (bn,bi)).log=s.log∧((s.plus v).offer (bn,bi)).steps=s.steps+v:=(offer_up (s.plus v) (bn,bi)).2
 generalize (s.plus v).offer (bn,bi)=t at *
 obtain ⟨y1,y2,y3,y4⟩:=hpre
 have:=hs.subs
 have:=hs.q
 have:=hs.log
 obtain ⟨l1,l2⟩:=hp.lay t.up
 have hdok:=build_ok x n o.width t.up
 have hds:=hdok.pos
 have hds2:=hdok.le
 rw [Node.cs] at n2
 refine K_run hB 100 ?_
 simp [go_sem,n2]
 refine K_callQ rfl rfl rfl (args:=[.ptr k.s 0,n.a]) (f:=131) (by simp [go_sem,Node.a,Node.cs]) (by simp [go_sem,hB]) (diagram_spec x o k t n hp.st hp.wi hp.ok (by have:=hp.path;omega) (by rw [y3];omega) l1.len (by omega) (σ:=σ2) (nx:=nx2) c3) fun r σ3 nx3 hq=>?_
 obtain ⟨rfl,k3,d1,d2⟩:=hq
 have hle3:=d2.le
 have n3:σ3 nx=σ2 nx:=d2.keep nx (by omega) (by omega) (by omega) (by omega) (by omega) (by omega)
 rw [n2] at n3
 rw [Inst.lookD] at hR
 generalize hD:x.build n o.width t.up=D at *
 have r3:=r2.trans d2
 have z1:=r3.s
 have z2:=d2.q
 have z3:=d2.sb
 have z4:=d2.lg
 have z5:=d2.h
 have hlt3:=d1.b.lt
 have b3:=d1.b.box
 rw [SS.cs,z1] at b3
 have hup:(t.dia n D).up=t.up:=rfl
 have hts:(t.dia n D).steps=t.steps+sizes D.layers:=rfl
 have htu:(t.dia n D).subs=t.subs∧(t.dia n D).q=t.q:=⟨rfl,rfl⟩
 rw [hup,hts] at b3
 have m1:¬k.s=nx3:=by omega
 have m2:¬nx=nx3:=by omega
 have m3:¬nx3=k.s:=by omega
 refine K_run hB 100 ?_
 simp [go_sem,Diag.a,Diag.cs]
 refine K_drawn [] rfl (by rw [hB];kernel_rfl) ?_
 by_cases ca:t.up≤D.low
 ·rw [if_pos ca] at hR
  subst hR
  refine K_run hB 100 ?_
  simp [go_sem,b3,m1,ca]
  have hfin:=d1.stay (σ':=oput (oput σ3 nx3 (.box [.fsl [],.i 0,.b false,.i 0])) nx3 (.box D.cs)) (nx':=nx3+1) (by omega) fun i hi=>by simp [oput,show ¬i=nx3 by omega]
  rw [Diag.cs] at hfin
  exact ⟨by omega,k3,hfin.1,r3.trans hfin.2⟩
 rw [if_neg ca] at hR
 by_cases cb:D.exact=true
 ·rw [if_pos cb] at hR
  have he:=best_pure x n t.up (x.mostN o.width) hp.st (by have:=hp.most;omega) hp.ok (by have:=hp.path;omega)
  obtain ⟨u1,u2,u3⟩:=hp.exa t.up
  have hmx:max o.width (x.stops.length:Int)=(x.mostN o.width:Int):=by unfold Inst.mostN;omega
  rw [SS.exa,hup] at hR
  rw [exRes4] at he
  generalize (x.exact n t.up (x.mostN o.width)).2.2.2=ve at *
  generalize (x.exact n t.up (x.mostN o.width)).2.2.1=vw at *
  generalize (x.exact n t.up (x.mostN o.width)).2.1=ei at *
  generalize (x.exact n t.up (x.mostN o.width)).1=en at *
  have g1:¬k.s=nx3+1:=by omega
  have g2:¬nx=nx3+1:=by omega
  have g3:¬nx3+1=k.s:=by omega
  have g4:¬nx=k.s:=by omega
  have w2:IntKind.i64.wrap (t.steps+(sizes D.layers:Int)+ve)=t.steps+(sizes D.layers:Int)+ve:=w64 _ (by omega)
  refine K_run hB 100 ?_
  simp [go_sem,b3,m1,ca,cb]
  refine K_drawnF [28,29] [0,1,2,3,4,5,6,7,8,9,10,11,12,13,14,15,16,17,18,19,20,21,22,23,24,25,26,27] rfl (by rw [hB];kernel_rfl) (by kernel_rfl) fun ht hf'=>?_
  refine K_run hB 100 ?_
  simp [go_sem,ht,hf',Inst.a,b3,n3,m1,m2,hmx]
  refine K_dCallP rfl rfl rfl (args:=[x.a,n.a,.i t.up,.i (x.mostN o.width)]) (f:=132) (by simp [go_sem,Inst.a,Node.a,Node.cs]) (he) ?_
  refine K_run hB 100 ?_
  simp [go_sem,ht,hf',Inst.a,b3,n3,m1,m2,m3,g1,g2,g3,g4,hmx,w2,Node.a,Node.cs]
  have hs4:=fun (τ:Nat→AObj) (h1:τ k.s= .box (((t.dia n D).plus ve).cs x o 0 0 k3)) (h2:∀i,i<nx3→i≠k.s→τ i=σ3 i)=>d1.turn (t:=(t.dia n D).plus ve) (τ:=τ) (nx':=nx3+1+1) (by rw [z1];exact h1) rfl rfl rfl ⟨by omega,by rw [z1];exact h2⟩
  refine K_callQ rfl rfl rfl (args:=[.ptr k.s 0,en.a,.b ei]) (f:=129) (by simp [go_sem,Node.a,Node.cs]) (by simp [go_sem,hB]) (z1 ▸ offer_spec x o 0 0 k3 ((t.dia n D).plus ve) en ei u3 (nx:=nx3+1+1) (hs4 _ (by simp [oput,SS.cs,SS.plus,hup,hts]) fun i h1 h2=>by simp [oput,h2,show ¬i=nx3 by omega,show ¬i=nx3+1 by omega]).b) fun r σ4 nx4 hq=>?_
  obtain ⟨rfl,e1,e2⟩:=hq
  have e3:=fun (τ:Nat→AObj) (hτ:Only k.s τ (nx3+1+1) σ4 nx4) h1 h2=>(hs4 τ h1 h2).only e1 (offer_up ((t.dia n D).plus ve) (en,ei)).2.2.1 (by rw [z1];exact hτ)
  have e4:=e3 _ e2 (by simp [oput,SS.cs,SS.plus,hup,hts]) fun i h1 h2=>by simp only [oput];rw [if_neg h2,if_neg (show ¬i=nx3+1 by omega),if_neg (show ¬i=nx3+1 by omega),if_neg (show ¬i=nx3 by omega),if_neg (show ¬i=nx3 by omega)]
  have e5:=e2.1
  have e6:Only k3.s σ3 nx3 σ4 nx4:=⟨by omega,fun i h1 h2=>by rw [z1] at h2;rw [e2.2 i (by omega) h2];simp [oput,h2,show ¬i=nx3 by omega,show ¬i=nx3+1 by omega]⟩
  rw [hR] at e4
  refine K_run hB 100 ?_
  simp [go_sem]
  exact ⟨by omega,k3,e4,r3.trans e6.runs⟩
 ·rw [if_neg cb] at hR
  have hcb:D.exact=false:=by simpa using cb
  refine K_run hB 100 ?_
  simp [go_sem,b3,m1,ca,hcb]
  have hfin:=d1.stay (σ':=oput (oput σ3 nx3 (.box [.fsl [],.i 0,.b false,.i 0])) nx3 (.box D.cs)) (nx':=nx3+1) (by omega) fun i hi=>by simp [oput,show ¬i=nx3 by omega]
  rw [Diag.cs,hcb] at hfin
  refine K_callQ rfl rfl rfl (args:=[.ptr k.s 0,D.a]) (f:=133) (by simp [go_sem,Diag.a,Diag.cs,hcb]) (by simp [go_sem,hB]) (z1 ▸ branch_spec x o k3 (t.dia n D) D hp.st l1 (by omega) (by omega) (by rw [htu.1,y1];omega) (by rw [htu.2,y2];omega) hfin.1) fun r σ4 nx4 hq=>?_
  obtain ⟨rfl,k4,e1,e2⟩:=hq
  have e3:=(r3.trans hfin.2).trans e2
  rw [hR] at e1
  refine K_run hB 100 ?_
  simp [go_sem]
  exact ⟨e3.le,k4,e1,e3⟩
end Go.Proofs.YtackfabapangdaaGreat

set_option maxRecDepth 4000
set_option maxHeartbeats 1000000
namespace Go.Proofs.YtackfabapangdaaGreat
open Go Go.Proofs.YtackfabapangdaaGreat.R
theorem buildGo_fine {x:Inst} (w up dp:Int):∀(f:Nat) (ls:List (List Node)) (low:Int) (sq:Option Nat) (l:List Node) (K:Nat),WFine l K→
  ∀k∈(x.buildGo w up dp f ls low sq l).layers,k∈ls∨(WFine k (K+f)∧(k=l∨k.length≤x.mostN w))
 |0,ls,low,sq,l,K,_,k,hk=>.inl hk
 |f+1,ls,low,sq,l,K,h,k,hk=>by
  have push:k∈ls++[l]→k∈ls∨(WFine k (K+(f+1))∧(k=l∨k.length≤x.mostN w)):=fun hk=>by
   rcases List.mem_append.1 hk with hk | hk
   ·exact .inl hk
   ·rw [List.mem_singleton.1 hk]
    exact .inr ⟨⟨h.ok,fun n hn=>by have:=h.path n hn;omega⟩,.inl rfl⟩
  rw [Inst.buildGo] at hk
  split at hk
  ·exact .inl hk
  split at hk
  ·exact push hk
  split at hk
  ·rcases buildGo_fine w up dp f _ _ _ _ (K+1) (h.next up |>.squeeze w) k hk with h1 | ⟨h1,h2⟩
   ·exact push h1
   ·refine .inr ⟨⟨h1.ok,fun n hn=>by have:=h1.path n hn;omega⟩,.inr ?_⟩
    rcases h2 with rfl | h2
    ·exact squeeze_len x _ w
    ·exact h2
  ·rename_i hno
   rcases buildGo_fine w up dp f _ _ _ _ (K+1) (h.next up) k hk with h1 | ⟨h1,h2⟩
   ·exact push h1
   ·refine .inr ⟨⟨h1.ok,fun n hn=>by have:=h1.path n hn;omega⟩,.inr ?_⟩
    rcases h2 with rfl | h2
    ·omega
    ·exact h2
theorem build_fine {x:Inst} {n:Node} (ho:n.s.ok) (w up:Int):∀k∈(x.build n w up).layers,WFine k (n.path.length+41)∧(k=[n]∨k.length≤x.mostN w):=by
 intro k hk
 have hd:=deep_le x
 rcases buildGo_fine w up _ _ _ _ _ _ n.path.length ⟨fun m hm=>by rw [List.mem_singleton.1 hm];exact ho,fun m hm=>by rw [List.mem_singleton.1 hm];exact Nat.le_refl _⟩ k hk with h1 | ⟨h1,h2⟩
 ·cases h1
 ·exact ⟨⟨h1.ok,fun m hm=>by have:=h1.path m hm;omega⟩,h2⟩
end Go.Proofs.YtackfabapangdaaGreat

set_option maxRecDepth 4000
namespace Go.Proofs.YtackfabapangdaaGreat
open Go Go.Proofs.YtackfabapangdaaGreat.R
theorem exGo_path (x:Inst) (most:Int) (k:Nat):∀(d:Nat) (st:Node×Bool×Int) (l:List Node) (n:Int) {K:Nat},Level x l d K→K≤k→st.1.path.length≤k→(x.exGo most d st l n).1.path.length≤k
 |0,st,l,n,K,_,_,h=>h
 |d+1,st,l,n,K,h1,h2,h3=>by
  rw [Inst.exGo]
  split
  ·exact h3
  ·split
   ·exact h3
   ·refine exGo_path x most k d _ _ _ (h1.next st.2.2) h2 ?_
    unfold Inst.look
    split
    ·exact bests_path fun m hm=>by have:=h1.path m hm;omega
    ·exact h3
end Go.Proofs.YtackfabapangdaaGreat

set_option maxRecDepth 4000
set_option maxHeartbeats 4000000
namespace Go.Proofs.YtackfabapangdaaGreat
open Go Go.Proofs.YtackfabapangdaaGreat.R
theorem look_pre {x:Inst} {p:Nat} (hx:x.Fit p) (hm:x.may=true) (hp:p≤3) {n:Node} (ht:Track x n) {w:Int} (hw:w≤40):LookPre x w n:=by
 have hlen:=hx.len
 have hfew:=ht.few
 have hml:=meas_le x n.s
 have hmost:x.mostN w≤40:=by unfold Inst.mostN;omega
 have hlay:=fun up=>build_fine (x:=x) ht.is.ok w up
 have hdp:=(deep_meas hm).2
 have hcnt:∀up,(x.build n w up).layers.length≤41:=fun up=>by
  have:=build_count x n w up
  omega
 refine ⟨by omega,by omega,ht.is.ok,by omega,fun up=>?_,fun up=>⟨⟨by have:=hcnt up;omega,fun l hl=>?_,fun l hl m hm=>?_⟩,?_⟩,by omega,fun up=>?_⟩
 ·obtain ⟨n1,n2⟩:=narrow_steps x n w up (by omega)
  have hmu:widthN w*x.meas n.s≤3000*40:=Nat.mul_le_mul (by unfold widthN;split<;>omega) hml
  have:=narrow_path x n w up ht.is.ok
  omega
 ·rcases (hlay up l hl).2 with rfl | h
  ·simp
  ·omega
 ·have h:=(hlay up l hl).1
  exact ⟨h.ok m hm,by have:=h.path m hm;omega⟩
 ·have h:=sizes_le 41 (x.build n w up).layers fun l hl=>by
   rcases (hlay up l hl).2 with rfl | h
   ·simp
   ·omega
  have:41*(x.build n w up).layers.length≤41*41:=Nat.mul_le_mul_left _ (hcnt up)
  omega
 ·have h1:0≤(x.exact n up (x.mostN w)).2.2.2∧(x.exact n up (x.mostN w)).2.2.2≤0+3000*((x.meas n.s+1:Nat):Int):=exGo_cnt x _ (by omega) (by omega) _ _ _ _ (Int.le_refl _) (by omega)
  have h2:(x.exact n up (x.mostN w)).1.path.length≤n.path.length+41:=exGo_path x _ (n.path.length+41) _ _ _ _ (Level.root x n ht.is.ok) (by omega) (Nat.zero_le _)
  omega
theorem len_sum {α:Type} (f:α→Nat):∀(l:List α),(∀e∈l,1≤f e)→l.length≤(l.map f).sum
 |[],_=>Nat.zero_le _
 |e :: l,h=>by
  have h1:=len_sum f l fun a ha=>h a (List.mem_cons_of_mem _ ha)
  have h2:=h e List.mem_cons_self
  rw [List.length_cons,List.map_cons,List.sum_cons]
  omega
theorem Going.pre {x:Inst} {p:Nat} (hx:x.Fit p) (hm:x.may=true) (hp:p≤3) {s:SS} (h:Going x p s):SPre s:=by
 have h1:=h.small.subs
 have h2:=h.small.log
 have h3:=h.small.steps
 have h4:s.q.length≤s.mass p:=len_sum _ _ fun e he=>by
  obtain ⟨n,hn⟩:=h.inv.nos e he
  rw [getD_of hn]
  exact wt_pos hx hm hp (h.inv.track n (List.mem_of_getElem? hn))
 exact ⟨by omega,by omega,by omega,by omega⟩
def SRes.a (r:SRes):AV:=.agg [.i r.status,.t (.sl (planT r.plan)),.i r.up,.i r.low,.i r.steps,.t (.sl (logT r.log))]
def Inst.search (x:Inst) (o:Opt):SRes:=
 if x.may=true then if o.mayB=true then (x.runGo o 1850 x.start).getD ⟨0,[],inf,0,0,[]⟩ else ⟨1,[],inf,0,0,[]⟩ else ⟨0,[],inf,0,0,[]⟩
theorem search_is {x:Inst} {p:Nat} (hx:x.Fit p) (hm:x.may=true) (hp:p≤3) {o:Opt} (ho:o.mayB=true) (hw:o.width≤40):x.runGo o 1850 x.start=some (x.search o):=by
 have hg:=start_going hx hm hp
 have:=hg.small.subs
 obtain ⟨r,hr⟩:=run_ends hx hm hp o hw 1850 x.start hg (by omega)
 rw [Inst.search,if_pos hm,if_pos ho,hr]
 rfl
theorem new_spec (o:Int) {σ:Nat→AObj} {nx:Nat}:CallSpec P 72 [.i o] σ nx (.ptr nx 0) (oput σ nx (.box [.fsl [],.i o])) (nx+1):=by
 refine CallQ.spec (spec_of Tryz.func72 rfl rfl (by simp [Tryz.f72]) fun B hB hnx hσB=>?_)
 simp only [Tryz.f72] at hB ⊢
 refine K_run hB 100 ?_
 simp [go_sem]
theorem ends_spec (x:Inst) (o:Opt) (k:Ids) (s:SS) {σ:Nat→AObj} {nx:Nat} (hb:SOk x o k s σ nx):
  CallQ P 75 [.ptr k.s 0] σ nx fun r σ' nx'=>r= .agg [.i s.ends.status,.t (.sl (planT s.plan)),.i s.up,.i s.up,.i s.steps,.ref k.lg]∧nx≤nx'∧∀i,i<nx→i≠k.s→σ' i=σ i:=by
 refine spec_of Tryz.func75 rfl rfl (by simp [Tryz.f75]) fun B hB hnx hσB=>?_
 simp only [Tryz.f75] at hB ⊢
 have b1:=hb.b.box
 rw [SS.cs] at b1
 have hlt:=hb.b.lt
 have ne1:¬k.s=nx:=by omega
 have ne2:¬nx=k.s:=by omega
 by_cases c:s.up<inf
 ·have e:s.ends.status=2:=if_pos c
  have c':¬(1152921504606846976≤s.up):=by
   have:inf=1152921504606846976:=rfl
   omega
  refine K_run hB 100 ?_
  simp [go_sem,b1,ne1,ne2,c',e]
  exact fun i h1 h2=>by simp [oput,h2,show ¬i=nx by omega]
 ·have e:s.ends.status=3:=if_neg c
  have c':1152921504606846976≤s.up:=by
   have:inf=1152921504606846976:=rfl
   omega
  refine K_run hB 100 ?_
  simp [go_sem,b1,ne1,ne2,c',e]
  exact fun i h1 h2=>by simp [oput,h2,show ¬i=nx by omega]
end Go.Proofs.YtackfabapangdaaGreat

set_option maxRecDepth 4000
set_option maxHeartbeats 4000000
namespace Go.Proofs.YtackfabapangdaaGreat
open Go Go.Proofs.YtackfabapangdaaGreat.R
structure RI (x:Inst) (o:Opt) (p:Nat) (R:SRes) (f:Nat) (s:SS) (k:Ids) (τ:Nat→AObj) (m:Nat):Prop where
 run:x.runGo o f s=some R
 go:Going x p s
 ok:SOk x o k s τ m
 ids:k.s=4∧3≤k.h∧3≤k.q∧3≤k.sb∧3≤k.lg
 b0:τ 0= .box [.i x.pairs,.i x.cars,.i x.room,.t (.sl (x.stops.map Stop.t))]
 b1:τ 1= .box [.i o.width,.i o.order,.i o.budget]
 b2:τ 2= .box [.i 0,.fsl [],.i 0,.i 0,.i 0,.fsl []]
theorem RI.next {x:Inst} {o:Opt} {p:Nat} {R:SRes} {f g:Nat} {s t:SS} {k k':Ids} {τ τ':Nat→AObj} {m m':Nat} (h:RI x o p R f s k τ m) (h1:x.runGo o g t=some R) (h2:Going x p t) (h3:SOk x o k' t τ' m') (h4:Runs k τ m k' τ' m'):RI x o p R g t k' τ' m':=by
 have:=h.ids
 have:=h.ok.b.lt
 have h5:=h4.s
 have h6:=h4.h
 have:=h4.q
 have:=h4.sb
 have:=h4.lg
 refine ⟨h1,h2,h3,by omega,?_,?_,?_⟩
 ·rw [h4.keep 0 (by omega) (by omega) (by omega) (by omega) (by omega) (by omega)];exact h.b0
 ·rw [h4.keep 1 (by omega) (by omega) (by omega) (by omega) (by omega) (by omega)];exact h.b1
 ·rw [h4.keep 2 (by omega) (by omega) (by omega) (by omega) (by omega) (by omega)];exact h.b2
theorem srun_pure (x:Inst) (o:Opt) (hl:x.stops.length≤7) (hw:o.width≤40):Pure P 31 [x.a,o.a] ((x.search o).a):=by
 generalize hR:x.search o=R
 refine pure_of Tryz.func31 rfl rfl (by simp [Tryz.f31]) (by simp [bnd,bnd.bndL,Inst.a,Opt.a,Opt.cs]) (by simp [bnd,bnd.bndL,SRes.a]) fun B hB hnx=>?_
 simp only [Tryz.f31] at hB ⊢
 have hmy:=may_pure x (by omega)
 have hom:=omay_pure o
 refine K_run hB 100 ?_
 simp [go_sem,Inst.a,Opt.a,Opt.cs]
 refine K_scopeN (α:=Unit) 0 (fun _=>False) (fun _=>⟨sl [],noObj,0⟩) (fun _=>0) rfl (fun _ h=>h.elim) ?_
 intro J hJ
 refine K_run hB 100 ?_
 simp [go_sem]
 refine K_call rfl rfl rfl (args:=[x.a]) (f:=33) (by simp [go_sem,Inst.a]) (by simp [go_sem,hB]) ((hmy).spec _ _) ?_
 cases cm:x.may with
 |false=>
  rw [Inst.search,if_neg (by simp [cm])] at hR
  subst hR
  refine K_run hB 100 ?_
  simp [go_sem]
  rfl
 |true=>
  refine K_run hB 100 ?_
  simp [go_sem]
  refine K_call rfl rfl rfl (args:=[o.a]) (f:=34) (by simp [go_sem,Opt.a,Opt.cs]) (by simp [go_sem,hB]) ((hom).spec _ _) ?_
  cases co:o.mayB with
  |false=>
   rw [Inst.search,if_pos cm,if_neg (by simp [co])] at hR
   subst hR
   refine K_run hB 100 ?_
   simp [go_sem]
   rfl
  |true=>
   refine K_run hB 100 ?_
   simp [go_sem]
   refine K_drawnF [5,7] [0,1,2] rfl (by rw [hB];kernel_rfl) (by kernel_rfl) fun ht hf'=>?_
   refine K_run hB 100 ?_
   simp [go_sem,ht,hf']
   refine K_dCall rfl rfl rfl (args:=[.i o.order]) (f:=72) (by simp [go_sem]) (new_spec o.order) (by decide) (okPends_does (by simp [go_sem])) ?_
   refine K_run hB 100 ?_
   simp [go_sem,ht,hf']
   obtain ⟨τ0,hτ0⟩:∃τ0:Nat→AObj,τ0=ob [(0,.box [.i x.pairs,.i x.cars,.i x.room,.t (.sl (x.stops.map Stop.t))]),(1,.box [.i o.width,.i o.order,.i o.budget]),(2,.box [.i 0,.fsl [],.i 0,.i 0,.i 0,.fsl []]),(3,.box [.ref 5,.i o.order]),(4,.box (SS.cs x o 0 0 ⟨4,3,5,7,6⟩ ⟨[],[],inf,[],0,[]⟩)),(5,.arr 4 []),(6,.arr 14 []),(7,.arr 10 [])]:=⟨_,rfl⟩
   refine K_imp (t:=⟨sl [(2,.ptr 0 0),(3,.ptr 1 0),(4,.ptr 2 0),(5,.ptr 4 0),(26,.ptr 4 0),(27,.agg [.i x.pairs,.i x.cars,.i x.room,.t (.sl (x.stops.map Stop.t))])],τ0,8⟩)
    ((Imp.ownB (b:=3) (off:=0) (sz:=4) (cs:=[.fsl [],.i o.order]) (by simp [oput]) rfl).trans
    ((Imp.ownB (b:=4) (off:=12) (sz:=14) (cs:=[.i x.pairs,.i x.cars,.i x.room,.t (.sl (x.stops.map Stop.t)),.i o.width,.i o.order,.i o.budget,.i 0,.fsl [],.i inf,.i 0,.i 0,.fsl [],.fsl [],.ptr 3 0]) (by simp [oput];rfl) rfl).trans
    ((Imp.ownB (b:=4) (off:=13) (sz:=10) (cs:=[.i x.pairs,.i x.cars,.i x.room,.t (.sl (x.stops.map Stop.t)),.i o.width,.i o.order,.i o.budget,.i 0,.fsl [],.i inf,.i 0,.i 0,.ref 6,.fsl [],.ptr 3 0]) (by simp [oput]) rfl).trans
    ((Imp.looseB (b:=4) (cs:=[.i x.pairs,.i x.cars,.i x.room,.t (.sl (x.stops.map Stop.t)),.i o.width,.i o.order,.i o.budget,.i 0,.fsl [],.i inf,.i 0,.i 0,.ref 6,.ref 7,.ptr 3 0]) (by simp [oput])).trans
    (Imp.slots (by simp [go_sem]) ?_ rfl))))) ?_
   ·funext i
    rw [hτ0]
    match i with
    |0=>simp [oput,ob]
    |1=>simp [oput,ob]
    |2=>simp [oput,ob]
    |3=>simp [oput,ob]
    |4=>simp [oput,ob,loosen,SS.cs,planT]
    |5=>simp [oput,ob]
    |6=>simp [oput,ob]
    |7=>simp [oput,ob]
    |i+8=>simp [oput,ob,noObj]
   obtain ⟨p,hx⟩:=x.fit cm
   have hp3:p≤3:=by have:=hx.len;omega
   have hrun:=search_is hx cm hp3 co hw
   rw [hR] at hrun
   have hgo:=start_going hx cm hp3
   have hroot:=root_pureS x (by omega)
   have hrok:=rootS_ok x
   have hsok:SOk x o ⟨4,3,5,7,6⟩ ⟨[],[],inf,[],0,[]⟩ τ0 8:=by
    rw [hτ0]
    exact ⟨⟨rfl,rfl,rfl,by decide,by decide,by decide,by decide⟩,[],rfl,rfl,List.Perm.refl _,fun i h1 h2=>by simp at h2⟩
   have y0:τ0 0= .box [.i x.pairs,.i x.cars,.i x.room,.t (.sl (x.stops.map Stop.t))]:=by rw [hτ0];rfl
   have y1:τ0 1= .box [.i o.width,.i o.order,.i o.budget]:=by rw [hτ0];rfl
   have y2:τ0 2= .box [.i 0,.fsl [],.i 0,.i 0,.i 0,.fsl []]:=by rw [hτ0];rfl
   clear hτ0
   refine K_call rfl rfl rfl (args:=[x.a]) (f:=57) (by simp [go_sem,Inst.a]) (by simp [go_sem,hB]) ((hroot).spec _ _) ?_
   refine K_run hB 100 ?_
   simp [go_sem,State.a,State.cs]
   refine K_imp Imp.loose ?_
   refine K_callQ rfl rfl rfl (args:=[.ptr 4 0,x.rootN.a,.i 0]) (f:=73) (by simp [go_sem,Node.a,Node.cs,Inst.rootN,loosen,loosen.loosenL,ints]) (by simp [go_sem,hB]) (push_spec x o ⟨4,3,5,7,6⟩ ⟨[],[],inf,[],0,[]⟩ x.rootN 0 (by omega) hrok (by simp [Inst.rootN]) (by simp) (by simp) (σ:=τ0) (nx:=8) hsok) fun r σ1 nx1 hq=>?_
   obtain ⟨rfl,k1,c1,c2⟩:=hq
   rw [←Inst.start] at c1
   have z:=c2.q
   have z2:=c2.sb
   have z3:=c2.lg
   have z4:=c2.s
   have z5:=c2.h
   simp only at z z2 z3 z4 z5
   have hri:RI x o p R 1850 x.start k1 σ1 nx1:=by
    refine ⟨hrun,hgo,c1,by omega,?_,?_,?_⟩
    ·rw [c2.keep 0 (by decide) (by decide) (by decide) (by decide) (by decide) (by decide)];exact y0
    ·rw [c2.keep 1 (by decide) (by decide) (by decide) (by decide) (by decide) (by decide)];exact y1
    ·rw [c2.keep 2 (by decide) (by decide) (by decide) (by decide) (by decide) (by decide)];exact y2
   clear z z2 z3 z4 z5 c1 c2 y0 y1 y2 hsok hrun hgo hroot hrok hR hmy hom
   refine K_run hB 100 ?_
   simp [go_sem]
   refine K_loopP (α:=Nat×SS×Ids×(Nat→AObj)×Nat) (fun (f,s,k,τ,m)=>RI x o p R f s k τ m) (fun (f,s,k,τ,m)=>⟨sl [(2,.ptr 0 0),(3,.ptr 1 0),(4,.ptr 2 0),(5,.ptr 4 0)],τ,m⟩) (fun a=>a.1) (1850,x.start,k1,σ1,nx1) hri (Imp.slots (by simp [go_sem,loosen]) rfl rfl) ?_
   rintro ⟨f,s,k,τ,m⟩ h
   simp only at h
   obtain ⟨f,rfl⟩:∃f',f=f'+1:=by
    cases f with
    |zero=>have:=h.run;cases this
    |succ f=>exact ⟨f,rfl⟩
   have hrun:=h.run
   rw [Inst.runGo] at hrun
   obtain ⟨hi1,hi2,hi3,hi4,hi5⟩:=h.ids
   have hlt:=h.ok.b.lt
   have a1:=h.ok.b.box
   rw [SS.cs,hi1] at a1
   obtain ⟨l,q1,q2,q3,q4⟩:=h.ok.q
   have hll:=q3.length_eq
   have hpre:=h.go.pre hx cm hp3
   have:=hpre.q
   by_cases cq:l=[]
   ·subst cq
    have hq0:s.q=[]:=List.eq_nil_of_length_eq_zero (by rw [←hll];rfl)
    have hend:R=s.ends:=by
     rw [hq0] at hrun
     exact (Option.some.inj hrun).symm
    refine K_run hB 100 ?_
    simp [go_sem,a1]
    refine K_call rfl rfl rfl (args:=[.ptr k.h 0]) (f:=74) (by simp [go_sem]) (by simp [go_sem,hB]) (htake_nil o.order hlt.2.1 q1 hlt.2.2.1 q2) ?_
    refine K_run hB 100 ?_
    simp [go_sem,Ent.a,Ent.cs]
    have hst:=h.ok.stay (σ':=oput (oput τ m (.box [.i 0,.i 0,.i 0])) m (.box [.i Ent.zero.bound,.i Ent.zero.depth,.i Ent.zero.no])) (nx':=m+1) (by omega) fun i hi=>by simp [oput,show ¬i=m by omega]
    refine K_callQ rfl rfl rfl (args:=[.ptr k.s 0]) (f:=75) (by simp [go_sem,hi1]) (by simp [go_sem,hB]) (ends_spec x o k s (nx:=m+1) hst.1) fun r σ2 nx2 hq=>?_
    obtain ⟨rfl,e1,e2⟩:=hq
    have e3:σ2 2= .box [.i 0,.fsl [],.i 0,.i 0,.i 0,.fsl []]:=by rw [e2 2 (by omega) (by omega)];simp [oput,show ¬2=m by omega,h.b2]
    have e4:σ2 k.lg= .arr 14 (logT s.log):=by rw [e2 k.lg (by omega) (fun e=>by have h1:=h.ok.b.log;rw [e,h.ok.b.box] at h1;cases h1)];simp [oput,show ¬k.lg=m by omega,h.ok.b.log]
    have e5:¬k.lg=2:=by omega
    refine K_run hB 100 ?_
    simp [go_sem,e3,e4,e5]
    rw [hend]
    rfl
   ·have hpos:0<l.length:=List.length_pos_iff.2 cq
    obtain ⟨q',t1,t2⟩:=take_heap q3 q4 hpos
    have hok:=restH_ok q4 hpos
    have htk:=htake_spec o.order l (by omega) hpos hlt.2.1 q1 hlt.2.2.1 q2
    rw [t1] at hrun
    simp only at hrun
    obtain ⟨n,hn,hg,htn,k1,k2,k3⟩:=h.go.look hx cm hp3 hw t1
    have hskip:=fun c=>h.go.skip t1 c
    generalize l.getD 0 Ent.zero=e at *
    generalize restH o.order l=l' at *
    refine K_run hB 100 ?_
    simp [go_sem,a1]
    refine K_callQ rfl rfl rfl (args:=[.ptr k.h 0]) (f:=74) (by simp [go_sem]) (by simp [go_sem,hB]) htk fun r σ2 nx2 hq=>?_
    obtain ⟨rfl,g1,qn,g2,g3,g4,g5,g6⟩:=hq
    have hsb:=h.ok.b
    have d1:k.sb≠k.h∧k.sb≠k.q∧k.lg≠k.h∧k.lg≠k.q:=⟨fun e=>hsb.hs.1 e.symm,fun e=>hsb.qs.2.2.1 e.symm,fun e=>hsb.hs.2 e.symm,fun e=>hsb.qs.2.2.2 e.symm⟩
    have dsh:=hsb.sh
    have dqs:=hsb.qs
    have dhs:=hsb.hs
    have hsok2:SOk x o {k with q:=qn} (s.left q') σ2 nx2:=by
     refine ⟨⟨?_,?_,?_,dsh,?_,dhs,?_⟩,l',g4,g5,t2,hok⟩
     ·rw [g6 k.s (by omega) dsh (by omega)];exact hsb.box
     ·rw [g6 k.sb (by omega) d1.1 d1.2.1];exact hsb.subs
     ·rw [g6 k.lg (by omega) d1.2.2.1 d1.2.2.2];exact hsb.log
     ·simp only;omega
     ·simp only;omega
    have hruns2:Runs k τ m {k with q:=qn} σ2 nx2:=⟨g1,rfl,rfl,.inr g2,.inl rfl,.inl rfl,fun i h1 h2 h3 h4 h5 h6=>g6 i h1 h3 h4⟩
    clear htk
    have b3:=(hruns2.keep 1 (by omega) (by omega) (by omega) (by omega) (by omega) (by omega)).trans h.b1
    have b4:=(hruns2.keep 2 (by omega) (by omega) (by omega) (by omega) (by omega) (by omega)).trans h.b2
    have b5:=hsok2.b.box
    rw [SS.cs] at b5
    simp only [hi1,SS.left] at b5
    have hm4:4<nx2:=by omega
    have j1:¬4=nx2:=by omega
    have j2:¬nx2=4:=by omega
    have j3:¬1=nx2:=by omega
    have j4:¬2=nx2:=by omega
    have j5:¬nx2=2:=by omega
    refine K_run hB 100 ?_
    simp [go_sem,Ent.a,Ent.cs]
    refine K_drawn [] rfl (by rw [hB];kernel_rfl) ?_
    have hst2:=hsok2.stay (σ':=oput (oput σ2 nx2 (.box [.i 0,.i 0,.i 0])) nx2 (.box [.i e.bound,.i e.depth,.i e.no])) (nx':=nx2+1) (by omega) fun i hi=>by simp [oput,show ¬i=nx2 by omega]
    have hold:∀i,i<nx2→oput (oput σ2 nx2 (.box [.i 0,.i 0,.i 0])) nx2 (.box [.i e.bound,.i e.depth,.i e.no]) i=σ2 i:=fun i hi=>by simp [oput,show ¬i=nx2 by omega]
    have hnew:oput (oput σ2 nx2 (.box [.i 0,.i 0,.i 0])) nx2 (.box [.i e.bound,.i e.depth,.i e.no]) nx2= .box [.i e.bound,.i e.depth,.i e.no]:=by simp [oput]
    by_cases c1:s.up≤e.bound
    ·rw [if_pos c1] at hrun
     refine K_run hB 100 ?_
     simp [go_sem,b5,j1,c1]
     exact Next.mk (f,s.left q',{k with q:=qn},_,nx2+1) (h.next hrun (hskip c1) hst2.1 (hruns2.trans hst2.2)) (Imp.slots (by simp [go_sem]) rfl rfl) (by simp only;omega)
    rw [if_neg c1] at hrun
    refine K_run hB 100 ?_
    simp [go_sem,b5,j1,c1]
    refine K_drawn [] rfl (by rw [hB];kernel_rfl) ?_
    by_cases c2:o.budget≤s.steps
    ·rw [if_pos c2] at hrun
     refine K_run hB 100 ?_
     simp [go_sem,b5,b3,j1,j3,c2]
     have hl1:=hleast_spec o.order l' (by have:=t2.length_eq;have:=(take_some t1).2.2.2;omega) (σ:=oput (oput σ2 nx2 (.box [.i 0,.i 0,.i 0])) nx2 (.box [.i e.bound,.i e.depth,.i e.no])) (nx:=nx2+1) (h:=k.h) (q:=qn) (by omega) ((hold k.h (by omega)).trans g4) (by omega) ((hold qn g3).trans g5)
     rw [least_perm t2] at hl1
     have hmin:min (min s.up e.bound) (leastQ q')=min s.up (min e.bound (leastQ q')):=by omega
     refine K_drawnF [18,22] [1,7,8,14] rfl (by rw [hB];kernel_rfl) (by kernel_rfl) fun ht hf'=>?_
     refine K_run hB 100 ?_
     simp [go_sem,ht,hf',b5,j1,j2]
     refine K_dLook (v:=.i (leastQ q')) (fun ho=>?_) (by simp [go_sem,ht]) ?_
     ·exact does_call ho (by simp [go_sem]) rfl rfl (args:=[.ptr k.h 0]) (f:=76) (by simp [go_sem]) hl1
     have e4:σ2 k.lg= .arr 14 (logT s.log):=hsok2.b.log
     have e5:¬k.lg=2:=by omega
     have e6:¬k.lg=4:=fun e=>by have h1:=h.ok.b.log;rw [e,←hi1,h.ok.b.box] at h1;cases h1
     have e7:¬k.lg=nx2:=by omega
     refine K_run hB 100 ?_
     simp [go_sem,ht,hf',b5,b4,j1,j2,j4,j5,hmin,e4,e5,e6,e7]
     rw [←Option.some.inj hrun]
     rfl
    ·rw [if_neg c2,hg] at hrun
     have hno:=List.getElem?_eq_some_iff.1 hn
     obtain ⟨hno1,hno2⟩:=hno
     have hnl:(nodesT s.subs).length=s.subs.length:=List.length_map _
     have hgn:∀h,(nodesT s.subs)[e.no]'h=n.t:=fun h=>by rw [nodesT_get _ hno1,hno2]
     have hsb2:σ2 k.sb= .arr 10 (nodesT s.subs):=hsok2.b.subs
     have j6:¬k.sb=nx2:=by have:=hsok2.b.lt;simp only at this;omega
     refine K_run hB 100 ?_
     simp [go_sem,b5,b3,j1,j3,c2]
     refine K_drawnZ [] 9 _ rfl (by rw [hB];kernel_rfl) (by kernel_rfl) rfl ?_
     refine K_run hB 100 ?_
     simp [go_sem,b5,j1,hsb2,j6,hnl,hno1,hgn,Node.t]
     refine K_callQ rfl rfl rfl (args:=[.ptr k.s 0,n.a]) (f:=77) (by simp [go_sem,Node.a,Node.cs,hi1]) (by simp [go_sem,hB]) (slook_spec x o {k with q:=qn} (s.left q') n (look_pre hx cm hp3 htn hw) ⟨hpre.steps,hpre.subs,by have h1:=t2.length_eq;have h2:=(take_some t1).2.2.2;show q'.length<_;omega,hpre.log⟩ (nx:=nx2+1) hst2.1) fun r σ4 nx4 hq=>?_
     obtain ⟨rfl,k4,e1,e2⟩:=hq
     refine K_run hB 100 ?_
     simp [go_sem]
     exact Next.mk (f,x.lookS o.width (s.left q') n,k4,_,nx4) (h.next hrun k1 e1 ((hruns2.trans hst2.2).trans e2)) (Imp.slots (by simp [go_sem]) rfl rfl) (by simp only;omega)
end Go.Proofs.YtackfabapangdaaGreat

set_option maxRecDepth 4000
set_option maxHeartbeats 1000000
namespace Go.Proofs.YtackfabapangdaaGreat
open Go Go.Proofs.YtackfabapangdaaGreat.R
theorem small_search:(small.search ⟨1,0,100⟩).status=2∧(small.search ⟨1,0,100⟩).up=12∧(small.search ⟨1,0,100⟩).low=12∧(small.search ⟨1,0,100⟩).plan.length=1∧(small.search ⟨1,0,100⟩).log.length=1:=by decide+kernel
theorem awake19_pure:Pure P 28 [] (.b true):=by
 refine pure_of Tryz.func28 rfl rfl (by simp [Tryz.f28]) (by simp [bnd,bnd.bndL]) (by simp [bnd,bnd.bndL]) fun B hB hnx=>?_
 simp only [Tryz.f28] at hB ⊢
 refine K_run hB 100 ?_
 simp [go_sem]
 refine K_call rfl rfl rfl (args:=[]) (f:=27) (by simp [go_sem]) (by simp [go_sem,hB]) ((small_pure).spec _ _) ?_
 have hp:=parse_pure smallB (by decide) (by decide)
 rw [small_parse] at hp
 refine K_run hB 100 ?_
 simp [go_sem,small_bytes]
 refine K_call rfl rfl rfl (args:=[.t (.sl (byt smallB))]) (f:=21) (by simp [go_sem]) (by simp [go_sem,hB]) ((hp).spec _ _) ?_
 have hs:=srun_pure small ⟨1,0,100⟩ (by decide) (by decide)
 obtain ⟨e1,e2,e3,e4,e5⟩:=small_search
 generalize small.search ⟨1,0,100⟩=r at *
 generalize small=x at *
 have hl1:(planT r.plan).length=1:=by rw [planT,List.length_map,e4]
 have hl2:(logT r.log).length=1:=by rw [logT,List.length_map,e5]
 refine K_run hB 100 ?_
 simp [go_sem,Inst.a]
 refine K_call rfl rfl rfl (args:=[x.a,Opt.a ⟨1,0,100⟩]) (f:=31) (by simp [go_sem,Inst.a,Opt.a,Opt.cs]) (by simp [go_sem,hB]) ((hs).spec _ _) ?_
 refine K_run hB 100 ?_
 simp [go_sem,SRes.a,e1,e2,e3,hl1,hl2]
def fewO (x:Inst) (o:Opt):Bool:=decide (x.stops.length≤7)&&decide (o.width≤40)
theorem few19_pure (x:Inst) (o:Opt) (hl:x.stops.length<2^63):Pure P 29 [x.a,o.a] (.b (fewO x o)):=by
 refine pure_of Tryz.func29 rfl rfl (by simp [Tryz.f29]) (by simp [bnd,bnd.bndL,Inst.a,Opt.a,Opt.cs]) (by simp [bnd,bnd.bndL]) fun B hB hnx=>?_
 simp only [Tryz.f29] at hB ⊢
 by_cases c1:x.stops.length≤7
 ·have c2:(x.stops.length:Int)≤7:=by omega
  refine K_run hB 100 ?_
  simp [go_sem,Inst.a,Opt.a,Opt.cs,c1,c2,fewO]
 ·have c2:¬(x.stops.length:Int)≤7:=by omega
  refine K_run hB 100 ?_
  simp [go_sem,Inst.a,Opt.a,Opt.cs,c1,c2,fewO]
end Go.Proofs.YtackfabapangdaaGreat

set_option maxRecDepth 100000
namespace Go.Proofs.YtackfabapangdaaGreat
open Go Go.ChangeShapes Go.WideShapes Go.ChangeAt Go.RowKit Go.Proofs.YtackfabapangdaaGreat.R
theorem has_opt {f:Nat} {ts:List T} (h:HasT P f 53 ts):∃o:Opt,ts=[.i o.width,.i o.order,.i o.budget]:=by
 obtain ⟨f',h⟩:=has_struct (tt_some tt53).1 h
 simp only [HasF] at h
 obtain ⟨a,_,rfl,_,ha,b,_,rfl,_,hb,c,_,rfl,_,hc,rfl⟩:=h
 obtain ⟨a,rfl⟩:=has_i ha
 obtain ⟨b,rfl⟩:=has_i hb
 obtain ⟨c,rfl⟩:=has_i hc
 exact ⟨⟨a,b,c⟩,rfl⟩
section
variable {H:Type} {enc:TypeId×Value→H} {W:World} {base:Nat} {sp:Nat→Bool} {held:Bool} {v:Value} {d:DataW H} {ps:List MemPlace}
theorem arg_opt (h:DataW.Trod enc P W 0 sp held 53 v d ps) (hv:Value.okWide P W .any base 53 v):∃o:Opt,RepA W (C0 W) o.a v:=by
 obtain ⟨f,ts,h1,h2⟩:=arg_struct (tt_some tt53).1 (by kernel_rfl) h hv
 obtain ⟨o,rfl⟩:=has_opt h1
 exact ⟨o,h2⟩
end
end Go.Proofs.YtackfabapangdaaGreat

set_option maxRecDepth 100000
namespace Go.Proofs.YtackfabapangdaaGreat
open Go
theorem w_enter:Tryz.prog.mayEnter=true:=by kernel_rfl
theorem w_lift:((false:Bool)==Tryz.prog.liftsFinal)=true:=by kernel_rfl
theorem w_make:(Tryz.prog.make==some Make.cut)=true:=by kernel_rfl
end Go.Proofs.YtackfabapangdaaGreat
