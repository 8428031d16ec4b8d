/- Texts 2 of 8 that the proof of Commits stands on. -/
import Derived.Test.YtpkkcicaeldodaaGreatDoorMgCommits1
import Derived.Deep.RegionHeld
import Derived.OrdersHeld
import Derived.Deep.DeepCutAuto
set_option linter.unusedSimpArgs false
set_option linter.unusedVariables false
set_option maxRecDepth 100000
set_option maxHeartbeats 6400000
open Go.Proofs.Tryz
namespace Go.Proofs.YtpkkcicaeldodaaGreatDoor
section
def atI (keys:List Int) (k:Int):Nat:=keys.countP fun x=>decide (x< k)
theorem atI_le (keys:List Int) (k:Int):atI keys k≤keys.length:=List.countP_le_length
theorem atI_split:∀ (keys:List Int) (k:Int),keys.Pairwise (· < ·)→(∀x∈keys.take (atI keys k),x< k)∧(∀x∈keys.drop (atI keys k),k≤x)
 | [],k,_=>by simp[atI]
 | a :: t,k,h=>by
  obtain⟨h1,h2⟩:=List.pairwise_cons.1 h;by_cases ha:a< k
  ·have e:atI (a :: t) k=atI t k+1:=by simp[atI,List.countP_cons,ha]
   obtain⟨g1,g2⟩:=atI_split t k h2;rw[e];refine⟨fun x hx=>?_,by simpa using g2⟩;rw[List.take_succ_cons] at hx;rcases List.mem_cons.1 hx with rfl | hx
   ·exact ha
   ·exact g1 x hx
  ·have e:atI (a :: t) k=0:=by
    unfold atI;refine List.countP_eq_zero.2 fun x hx=>?_;rcases List.mem_cons.1 hx with rfl | hx
    ·simpa using ha
    ·have:=h1 x hx;simp;omega
   rw[e];refine⟨fun x hx=>by simp at hx,fun x hx=>?_⟩;simp only[List.drop_zero] at hx;rcases List.mem_cons.1 hx with rfl | hx
   ·omega
   ·have:=h1 x hx;omega
theorem atI_found {keys:List Int} {k:Int} (h:keys.Pairwise (· < ·)):keys.contains k=true↔keys[atI keys k]? =some k:=by
 rw[List.contains_iff_mem];constructor
 ·intro hm
  obtain⟨h1,h2⟩:=atI_split keys k h;rw[←List.take_append_drop (atI keys k) keys] at hm;rcases List.mem_append.1 hm with e | e
  ·have:=h1 k e;omega
  ·cases hd:keys.drop (atI keys k) with
   | nil=>rw[hd] at e;cases e
   | cons a t=>
    have h3:keys[atI keys k]? =some a:=by
     have:=congrArg (fun l=>l[0]?) hd;simpa using this
    have hp:(keys.drop (atI keys k)).Pairwise (· < ·):=List.Pairwise.sublist (List.drop_sublist _ _) h;rw[hd] at hp e;have h4:=h2 a (by rw[hd];exact List.mem_cons_self);rcases List.mem_cons.1 e with rfl | e
    ·exact h3
    ·have:=(List.pairwise_cons.1 hp).1 k e;omega
 ·exact fun h=>List.mem_of_getElem? h
theorem atI_missed {keys:List Int} {k:Int} (h:keys.Pairwise (· < ·)) (hn:keys.contains k=false):∀x∈keys.drop (atI keys k),k< x:=by
 intro x hx;have h2:=(atI_split keys k h).2 x hx;rcases Int.lt_or_eq_of_le h2 with e | e
 ·exact e
 ·subst e
  have:keys.contains k=true:=List.contains_iff_mem.2 (List.mem_of_mem_drop hx);rw[hn] at this;cases this
theorem kvs_take {nd:Nd} (hv:nd.vals.length=nd.keys.length) (i:Nat):(nd.kvs.take i).map (·.1)=nd.keys.take i:=by rw[List.map_take,kvs_keys hv]
theorem kvs_drop {nd:Nd} (hv:nd.vals.length=nd.keys.length) (i:Nat):(nd.kvs.drop i).map (·.1)=nd.keys.drop i:=by rw[List.map_drop,kvs_keys hv]
theorem fst_mem {l:List KV} {ks:List Int} (h:l.map (·.1)=ks) {p:Int→Prop} (hp:∀x∈ks,p x):∀x∈l,p x.1:=fun x hx=>hp _ (h▸List.mem_map.2 ⟨x,hx,rfl⟩)
theorem putL_one (k v v':Int):putL [(k,v)] k v'=[(k,v')]:=by simp[putL]
theorem putL_set:∀ {L:List KV} {i:Nat} {k v v':Int},Srt L→L[i]? =some (k,v)→putL L k v'=L.set i (k,v')
 | [],_,_,_,_,_,h=>by simp at h
 | x :: t,0,k,v,v',hs,h=>by
  simp only[List.getElem?_cons_zero,Option.some.injEq] at h;subst h;have h1:=(List.pairwise_cons.1 hs).1;have:=putL_mid (A:=[]) (M:=[(k,v)]) (B:=t) (k:=k) (v:=v') (fun x hx=>by cases hx) h1
  simpa [putL_one] using this
 | x :: t,i+1,k,v,v',hs,h=>by
  simp only[List.getElem?_cons_succ] at h;obtain⟨h1,h2⟩:=List.pairwise_cons.1 hs;have hx:=h1 _ (List.mem_of_getElem? h);have:=putL_mid (A:=[x]) (M:=t) (B:=[]) (k:=k) (v:=v') (fun y hy=>by simp at hy;subst hy;exact hx) (fun y hy=>by cases hy);rw[putL_set h2 h] at this;simpa using this
theorem getK_mem:∀ {L:List KV} {k v:Int},Srt L→(k,v)∈L→getK L k=some v
 | [],_,_,_,h=>by cases h
 | x :: t,k,v,hs,h=>by
  obtain⟨h1,h2⟩:=List.pairwise_cons.1 hs;rcases List.mem_cons.1 h with rfl | e
  ·simp[getK]
  ·have hx:=h1 _ e
   have:=getK_mem h2 e;unfold getK at this ⊢;rw[List.find?_cons_of_neg (by simp only at hx;simp;omega)];exact this
theorem getK_none {L:List KV} {k:Int} (h:∀x∈L,x.1≠k):getK L k=none:=by
 unfold getK;rw[List.find?_eq_none.2 fun x hx=>by simpa using h x hx]
 rfl
theorem Fr.set {R:Nat→List KV→List Nat→Prop} {ks:List Nat} {kv L:List KV} {P:List Nat} (h:Fr R ks kv L P):∀ {i:Nat} {k v v':Int},Srt L→kv[i]? =some (k,v)→Fr R ks (kv.set i (k,v')) (putL L k v') P:=by
 induction h with
 | one _=>intro i k v v' _ h;simp at h
 | @cons q M Q k0 ks kv L' P' h1 h2 ih=>
  intro i k v v' hs hi;obtain⟨s1,s2,s3⟩:=srt_app.1 hs;obtain⟨s4,s5⟩:=List.pairwise_cons.1 s2
  cases i with
  | zero=>
   simp only[List.getElem?_cons_zero,Option.some.injEq] at hi;subst hi;have:=putL_mid (A:=M) (M:=[(k,v)]) (B:=L') (k:=k) (v:=v') (fun x hx=>s3 x hx _ List.mem_cons_self) s4;rw[putL_one] at this;rw[show M++(k,v) :: L'=M++[(k,v)]++L' from by simp,this];have:=Fr.cons (k:=(k,v')) h1 h2
   simpa using this
  | succ i=>
   simp only[List.getElem?_cons_succ] at hi;have hm:(k,v)∈L':=h2.sub.subset (List.mem_of_getElem? hi);have h0:=s4 _ hm
   have:=putL_mid (A:=M++[k0]) (M:=L') (B:=[]) (k:=k) (v:=v') (fun x hx=>by
    rcases List.mem_append.1 hx with e | e
    ·exact s3 x e _ (List.mem_cons_of_mem _ hm)
    ·simp at e;subst e;exact h0) (fun x hx=>by cases hx)
   rw[List.append_nil,List.append_nil] at this;rw[show M++k0 :: L'=M++[k0]++L' from by simp,this];have:=Fr.cons (k:=k0) h1 (ih (v':=v') s5 hi);simpa using this
theorem kvs_at {nd:Nd} (hv:nd.vals.length=nd.keys.length) {i:Nat} {k v:Int} (hk:nd.keys[i]? =some k) (hvv:nd.vals[i]? =some v):nd.kvs[i]? =some (k,v):=by
 unfold Nd.kvs;rw[List.getElem?_zip_eq_some];exact⟨hk,hvv⟩
theorem kvs_set {nd:Nd} (hv:nd.vals.length=nd.keys.length) {i:Nat} {k:Int} (hk:nd.keys[i]? =some k) (v':Int):Nd.kvs { nd with vals:=nd.vals.set i v' }=nd.kvs.set i (k,v'):=by
 have hil:=(List.getElem?_eq_some_iff.1 hk).1;apply List.ext_getElem?
 intro j;have hl:nd.kvs.length=nd.keys.length:=kvs_len hv;by_cases e:i=j
 ·subst e
  rw[List.getElem?_set_self (by omega)];exact kvs_at (nd:= { nd with vals:=nd.vals.set i v' }) (by simpa using hv) hk (by simp only;rw[List.getElem?_set_self (by omega)])
 ·rw[List.getElem?_set_ne e]
  unfold Nd.kvs;simp only[List.zip,List.getElem?_zipWith,List.getElem?_set_ne e]
section
variable {rd rd':Nat→Option Nd} {h d q:Nat} {L:List KV} {P:List Nat} {nd:Nd} {k:Int}
theorem Tr.keys (t:Tr rd h d q L P) (hn:rd q=some nd) (hs:Srt L):nd.keys.Pairwise (· < ·):=by
 have hsub:nd.vals.length=nd.keys.length∧nd.kvs.Sublist L:=by
  cases d with
  | zero=>obtain⟨nd',h1,h2,h3,h4,rfl,h6⟩:=t;rw[hn] at h1;cases h1;exact⟨h3,List.Sublist.refl _⟩
  | succ d=>obtain⟨nd',P',h1,h2,h3,h4,h5,h6⟩:=t;rw[hn] at h1;cases h1;exact⟨h2,h5.sub⟩
 rw[←kvs_keys hsub.1];exact List.pairwise_map.2 (hs.sub hsub.2)
theorem Tr.down (t:Tr rd h (d+1) q L P) (hn:rd q=some nd) (hs:Srt L) (hk:nd.keys.contains k=false) :
  ∃c A M B PA PM PB,nd.kids[atI nd.keys k]? =some c∧L=A++M++B∧P=q :: (PA++PM++PB)∧Tc rd h d c M PM∧(∀x∈A,x.1< k)∧(∀x∈B,k< x.1)∧
   ∀rd' M' PM',rd' q=rd q→(∀i∈PA,rd' i=rd i)→(∀i∈PB,rd' i=rd i)→Tc rd' h d c M' PM'→Tr rd' h (d+1) q (A++M'++B) (q :: (PA++PM'++PB)):=by
 have hks:=t.keys hn hs;obtain⟨nd',P',h1,h2,h3,h4,h5,rfl⟩:=t;rw[hn] at h1
 cases h1
 have hkl:=kvs_len h2;have hil:=atI_le nd.keys k;obtain⟨i,hi⟩:∃i,atI nd.keys k=i:=⟨_,rfl⟩;have hs1:=(atI_split nd.keys k hks).1;have hs2:=atI_missed hks hk;rw[hi] at hil hs1 hs2 ⊢;have hcl:=h5.len;obtain⟨c,hc⟩:∃c,nd.kids[i]? =some c:=⟨_,List.getElem?_eq_getElem (by omega)⟩
 have e1:nd.kids=nd.kids.take i++[c]++nd.kids.drop (i+1):=by
  obtain⟨hl,he⟩:=List.getElem?_eq_some_iff.1 hc;rw[List.append_assoc,List.singleton_append,←he,←List.drop_eq_getElem_cons hl,List.take_append_drop]
 have e2:nd.kvs=nd.kvs.take i++[]++nd.kvs.drop i:=by simp
 have h5':=h5;rw[e1,e2] at h5;obtain⟨A,PA,M,PM,B,PB,g1,g2,g3,rfl,rfl⟩:=h5.focus (by rw[List.length_take,List.length_take];omega) rfl;have hside:=Fr.sides g1 g3 hs (fst_mem (kvs_take h2 i) hs1)
 cases g2 with
 | one g2=>
  refine⟨c,A,M,B,PA,PM,PB,hc,rfl,rfl,g2,hside.1,hside.2 (fst_mem (kvs_drop h2 i) hs2),fun rd' M' PM' hq hA hB hM=>?_⟩;refine⟨nd,_,hq.trans hn,h2,h3,h4,?_,rfl⟩;rw[e1,e2];exact Fr.build (g1.mono fun c' M'' Q hc' hQ=>Tc.frame hc' fun i hi=>hA i (hQ i hi)) (.one hM) (g3.mono fun c' M'' Q hc' hQ=>Tc.frame hc' fun i hi=>hB i (hQ i hi))
structure Ctx (rd:Nat→Option Nd) (h D root d q:Nat) (k:Int) (A B:List KV) (P1 P2:List Nat):Prop where
 lt:∀x∈A,x.1< k
 gt:∀x∈B,k< x.1
 le:d≤D
 plug:∀rd' M' PM',(∀i∈P1,rd' i=rd i)→(∀i∈P2,rd' i=rd i)→Tr rd' h d q M' PM'→(h - 1≤nk rd' q∨d=D)→Tr rd' h D root (A++M'++B) (P1++PM'++P2)
theorem Ctx.root (rd:Nat→Option Nd) (h D root:Nat) (k:Int):Ctx rd h D root D root k [] [] [] []:=
 ⟨fun x hx=>by(cases hx),fun x hx=>by(cases hx),Nat.le_refl _,fun rd' M' PM' _ _ t _=>by simpa using t⟩
theorem Ctx.frame {D root:Nat} {A B:List KV} {P1 P2:List Nat} (c:Ctx rd h D root d q k A B P1 P2) (h1:∀i∈P1,rd' i=rd i) (h2:∀i∈P2,rd' i=rd i):Ctx rd' h D root d q k A B P1 P2:=
 ⟨c.lt,c.gt,c.le,fun rd2 M' PM' g1 g2=>c.plug rd2 M' PM' (fun i hi=>(g1 i hi).trans (h1 i hi)) (fun i hi=>(g2 i hi).trans (h2 i hi))⟩
theorem Ctx.down {D root:Nat} {A B M:List KV} {P1 P2 PM:List Nat} (c:Ctx rd h D root (d+1) q k A B P1 P2) (t:Tr rd h (d+1) q M PM) (ho:h - 1≤nk rd q∨d+1=D) (hn:rd q=some nd) (hs:Srt M) (hk:nd.keys.contains k=false) :
  ∃e A' M' B' P1' PM' P2',nd.kids[atI nd.keys k]? =some e∧Ctx rd h D root d e k A' B' P1' P2'∧Tc rd h d e M' PM'∧A++M++B=A'++M'++B'∧P1++PM++P2=P1'++PM'++P2':=by
 obtain⟨e,A1,M1,B1,PA,PM1,PB,h1,rfl,rfl,h4,h5,h6,h7⟩:=t.down hn hs hk;refine⟨e,A++A1,M1,B1++B,P1++q :: PA,PM1,PB++P2,h1,⟨fun x hx=>?_,fun x hx=>?_,by have:=c.le;omega,fun rd' M' PM' g1 g2 g3 g4=>?_⟩,h4,by simp,by simp⟩
 ·rcases List.mem_append.1 hx with e | e
  ·exact c.lt x e
  ·exact h5 x e
 ·rcases List.mem_append.1 hx with e | e
  ·exact h6 x e
  ·exact c.gt x e
 ·have hq:rd' q=rd q:=g1 q (by simp)
  have hd:¬d=D:=by have:=c.le;omega
  have h8:=h7 rd' M' PM' hq (fun i hi=>g1 i (by simp[hi])) (fun i hi=>g2 i (by simp[hi])) ⟨g3,g4.resolve_right hd⟩
  have h9:=c.plug rd' _ _ (fun i hi=>g1 i (by simp[hi])) (fun i hi=>g2 i (by simp[hi])) h8 (by
   have:nk rd' q=nk rd q:=by unfold nk;rw[hq]
   rw[this];exact ho)
  simpa using h9
theorem Tr.here (t:Tr rd h d q L P) (hn:rd q=some nd) (hs:Srt L) (hk:nd.keys.contains k=true) (hd:P.Nodup) :
  ∃v,nd.vals[atI nd.keys k]? =some v∧getK L k=some v∧∀rd' v',rd' q=some { nd with vals:=nd.vals.set (atI nd.keys k) v' }→(∀i∈P,i≠q→rd' i=rd i)→Tr rd' h d q (putL L k v') P:=by
 have hks:=t.keys hn hs;have hkf:=(atI_found hks).1 hk;obtain⟨i,hi⟩:∃i,atI nd.keys k=i:=⟨_,rfl⟩;rw[hi] at hkf ⊢;have hil:=(List.getElem?_eq_some_iff.1 hkf).1
 cases d with
 | zero=>
  obtain⟨nd',h1,h2,h3,h4,rfl,rfl⟩:=t;rw[hn] at h1
  cases h1
  obtain⟨v,hv⟩:∃v,nd.vals[i]? =some v:=⟨_,List.getElem?_eq_getElem (by omega)⟩;have hkv:=kvs_at h3 hkf hv;refine⟨v,hv,getK_mem hs (List.mem_of_getElem? hkv),fun rd' v' hq _=>⟨_,hq,h2,by simpa using h3,h4,?_,rfl⟩⟩
  rw[kvs_set h3 hkf,putL_set hs hkv]
 | succ d=>
  obtain⟨nd',P',h1,h2,h3,h4,h5,rfl⟩:=t;rw[hn] at h1
  cases h1
  obtain⟨v,hv⟩:∃v,nd.vals[i]? =some v:=⟨_,List.getElem?_eq_getElem (by omega)⟩;have hkv:=kvs_at h2 hkf hv;refine⟨v,hv,getK_mem hs (h5.sub.subset (List.mem_of_getElem? hkv)),fun rd' v' hq hr=>⟨_,P',hq,by simpa using h2,h3,h4,?_,rfl⟩⟩;rw[kvs_set h2 hkf];have hnd:=List.nodup_cons.1 hd
  exact(h5.set (v':=v') hs hkv).mono fun c M Q hc hQ=>Tc.frame hc fun j hj=>hr j (List.mem_cons_of_mem _ (hQ j hj)) fun e=>hnd.1 (e▸hQ j hj)
end
end
section
open Go.RowKit Go.Maps
theorem imap_ne {w:World} {M g s:Nat} {t:TypeId} {cs:Array Value} {m:Int→Option Value} {P:Program} {k:TypeId} (h:IMap P k w M m s) (hb:Blk w g t cs):M≠g:=by
 rintro rfl;obtain⟨D,⟨es,clock,he, -⟩, -⟩:=h;unfold Blk at hb;rw[he] at hb
 cases hb
structure Dk where
 n:Nat
 sz:Nat
 data:Nat→List Int
 cache:Int→Option (List Int)
 armed:Bool
 left:Int
 down:Bool
 done:Int
 id:Nat
def cntC:Nat→(Int→Option (List Int))→Nat
 | 0,_=>0
 | n+1,f=>cntC n f+if (f n).isSome then 1 else 0
theorem cntC_le:∀n f,cntC n f≤n
 | 0,_=>Nat.le_refl _
 | n+1,f=>by have:=cntC_le n f;unfold cntC;split<;>omega
theorem cntC_put (f:Int→Option (List Int)) (i:Int) (bs:List Int):∀n,cntC n (fun j=>if j=i then some bs else f j)=cntC n f+if 0≤i∧i< n∧f i=none then 1 else 0
 | 0=>by simp[cntC];intro h1 h2;omega
 | n+1=>by
  have ih:=cntC_put f i bs n;unfold cntC;rw[ih];by_cases e:(n:Int)=i
  ·subst e
   cases hf:f n<;>simp[hf]<;>omega
  ·simp only[if_neg e]
   have h1:(0≤i∧i< ((n+1:Nat):Int)∧f i=none)↔(0≤i∧i< (n:Int)∧f i=none):=⟨fun h=>⟨h.1,by omega,h.2.2⟩,fun h=>⟨h.1,by omega,h.2.2⟩⟩;simp only[h1];omega
def BRow (w:World) (F:Nat→Prop) (v:Value) (bs:List Int):Prop:=w.ownsRow 0 5 1 v bs.length (bv bs)∧∀g,v.ownBlock=some g→F g
def NotB (w:World) (g:Nat):Prop:=∀cs fr,w.heap[g]? ≠some (.cells cs 5 fr)
structure DIn (w:World) (d:Nat) (F:Nat→Prop) (D:Dk) (A:Option Addr) (c M s:Nat) (vs:List Value) (cm:Int→Option Value):Prop where
 blk:Blk w d 120 #[.int .i64 D.sz,.slice A D.n c,.map (some M),.bool D.armed,.int .i64 D.left,.bool D.down,.int .i64 D.done]
 row:w.ownsRow 0 49 1 (.slice A D.n c) D.n vs
 map:IMap prog 3 w M cm s
 dat:∀i,i< D.n→∃v,vs[i]? =some v∧BRow w F v (D.data i)∧(D.data i).length=D.sz
 no:∀i,D.cache i=none→cm i=none
 has:∀i bs,D.cache i=some bs→∃v,cm i=some v∧BRow w F v bs∧bs.length=D.sz∧0≤i∧i< D.n
 inF:F d∧F M∧∀a,A=some a→F a.block
 sml:1≤D.n∧D.n≤4096∧16≤D.sz∧D.sz≤4096∧s≤cntC D.n D.cache
 id:D.id=d
def DS (w:World) (d:Nat) (F:Nat→Prop) (D:Dk):Prop:=(∃A c M s vs cm,DIn w d F D A c M s vs cm)∧∀j,F j→j< w.heap.size
def DTo (w w':World) (d:Nat) (F:Nat→Prop) (D:Dk):Prop:=∃F',DS w' d F' D∧Chg F w w'∧∀j,F' j→F j∨w.heap.size≤j
section
variable {w w' w2:World} {d:Nat} {F F' G:Nat→Prop} {D D':Dk} {A:Option Addr} {c M s:Nat} {vs:List Value} {cm:Int→Option Value} {v:Value} {bs:List Int}
theorem BRow.chg (h:BRow w F v bs) (hc:Chg G w w') (hG:∀j,F j→¬G j):BRow w' F v bs:=⟨own_chg h.1 hc fun g hg=>hG _ (h.2 g hg),h.2⟩
theorem BRow.mono (h:BRow w F v bs) (hF:∀j,F j→F' j):BRow w F' v bs:=⟨h.1,fun g hg=>hF _ (h.2 g hg)⟩
theorem BRow.open (h:BRow w F v bs) (hn:0< bs.length):∃a c,v= .slice (some a) bs.length c∧Sl w 1 (some a) bs.length (bv bs)∧F a.block∧a.block< w.heap.size:=by
 obtain⟨A,c,rfl, -⟩:=own_shape h.1;obtain⟨g,rfl,hg⟩:=own_block h.1 hn;exact⟨_,c,rfl,Sl.of_own h.1,h.2 g rfl,hg⟩
theorem own_notB {base s n:Nat} {xs:List Value} {e:TypeId} (h:w.ownsRow base e s v n xs) (he:e≠5) {g:Nat} (hg:v.ownBlock=some g):NotB w g:=by
 intro cs fr hh;rcases h.2 with ⟨rfl,_⟩ | ⟨g',cap,cur,rfl,_,hb,_⟩
 ·simp[Value.ownBlock] at hg
 ·have:g'=g:=by simpa [Value.ownBlock] using hg
  subst this;rw[hb] at hh
  cases hh
  exact he rfl
theorem Blk.notB {g:Nat} {t:TypeId} {cs:Array Value} (h:Blk w g t cs) (ht:t≠5):NotB w g:=by
 intro cs' fr hh;unfold Blk at h;rw[h] at hh
 cases hh
 exact ht rfl
theorem BRow.past (h:BRow w F v bs) (hc:Chg G w w') (hg:∀g,G g→NotB w g):BRow w' F v bs:=by
 refine⟨own_chg h.1 hc fun g hv hG=>?_,h.2⟩;rcases h.1.2 with ⟨rfl,_⟩ | ⟨g',cap,cur,rfl,_,hb,_⟩
 ·simp[Value.ownBlock] at hv
 ·have:g'=g:=by simpa [Value.ownBlock] using hv
  subst this;exact hg _ hG _ _ hb
theorem DIn.chg (h:DIn w d F D A c M s vs cm) (hc:Chg G w w') (hG:∀j,F j→¬G j):DIn w' d F D A c M s vs cm:=
 ⟨h.blk.chg hc (hG _ h.inF.1),own_chg h.row hc (fun g hg=>hG _ (by cases A with | none=>simp[Value.ownBlock] at hg | some a=>simp[Value.ownBlock] at hg;subst hg;exact h.inF.2.2 a rfl)),h.map.chg hc (hG _ h.inF.2.1),
  fun i hi=>by obtain⟨v,h1,h2,h3⟩:=h.dat i hi;exact⟨v,h1,h2.chg hc hG,h3⟩,h.no,fun i bs hi=>by obtain⟨v,h1,h2,h3⟩:=h.has i bs hi;exact⟨v,h1,h2.chg hc hG,h3⟩,h.inF,h.sml,h.id⟩
theorem DS.chg (h:DS w d F D) (hc:Chg G w w') (hG:∀j,F j→¬G j):DS w' d F D:=by
 obtain⟨⟨A,c,M,s,vs,cm,h⟩,hl⟩:=h;exact⟨⟨A,c,M,s,vs,cm,h.chg hc hG⟩,fun j hj=>Nat.lt_of_lt_of_le (hl j hj) hc.size⟩
theorem DS.grew (h:DS w d F D) (hc:Grew w w'):DS w' d F D:=h.chg hc fun _ _=>id
theorem DS.lt (h:DS w d F D):∀j,F j→j< w.heap.size:=h.2
theorem DS.sml (h:DS w d F D):1≤D.n∧D.n≤4096∧16≤D.sz∧D.sz≤4096:=by
 obtain⟨⟨A,c,M,s,vs,cm,h⟩,hl⟩:=h;exact⟨h.sml.1,h.sml.2.1,h.sml.2.2.1,h.sml.2.2.2.1⟩
theorem DS.id (h:DS w d F D):D.id=d:=by
 obtain⟨⟨A,c,M,s,vs,cm,h⟩,hl⟩:=h;exact h.id
theorem map_notB {b s:Nat} {m:Int→Option Value} (h:IMap prog 3 w b m s):NotB w b:=by
 intro cs fr hh;obtain⟨D,⟨es,cl,hb,r⟩,_⟩:=h;rw[hb] at hh
 cases hh
theorem DIn.flags (h:DIn w d F D A c M s vs cm) {ar dn:Bool} {lf dd:Int} (hc:Chg (fun j=>j=d) w w')
  (hb:Blk w' d 120 #[.int .i64 D.sz,.slice A D.n c,.map (some M),.bool ar,.int .i64 lf,.bool dn,.int .i64 dd]):DIn w' d F { D with armed:=ar,left:=lf,down:=dn,done:=dd } A c M s vs cm:=
 ⟨hb,own_chg h.row hc (fun g hg e=>own_blk_ne h.row h.blk (by decide) (by rw[hg,e])),h.map.chg hc (imap_ne h.map h.blk),
  fun i hi=>by obtain⟨v,h1,h2,h3⟩:=h.dat i hi;exact⟨v,h1,h2.past hc (fun g hg=>hg▸h.blk.notB (by decide)),h3⟩,h.no,
  fun i bs hi=>by obtain⟨v,h1,h2,h3⟩:=h.has i bs hi;exact⟨v,h1,h2.past hc (fun g hg=>hg▸h.blk.notB (by decide)),h3⟩,h.inF,h.sml,h.id⟩
end
theorem dcheck_ok (d:Nat) (i:Int) (F:Nat→Prop) (D:Dk) (w:World) (h:DS w d F D) (hd:D.down=false) (h0:0≤i) (h1:i< D.n) :
  Calls prog 98 #[.pointer (some ⟨d,0,none⟩),.int .i64 i] w fun e w'=>e= .returned (.int .i64 0)∧w=w':=by
 obtain⟨⟨A,c,M,s,vs,cm,h⟩,hl⟩:=h;obtain⟨c0,f0,s0⟩:=h.blk.facts;rw[hd] at c0;have t1:decide (i< 0)=false:=decide_eq_false (by omega);have t2:decide ((D.n:Int)≤i)=false:=decide_eq_false (by omega);clear h hl;go_enter func98,ntmps98
 go_wp2
 go_ret
 exact⟨rfl,rfl⟩
end
section
open Go.RowKit Go.Maps
theorem kInt:Keyed prog 3:=int_keyed underlying3
theorem zBytes (w:World):(zeroValue 49).run prog w= .ok (.slice none 0 0) w:=by kernel_rfl
theorem dsectors_any (d:Nat) (F:Nat→Prop) (D:Dk) (w:World) (h:DS w d F D) :
  Calls prog 76 #[.pointer (some ⟨d,0,none⟩)] w fun e w'=>e= .returned (.int .i64 D.n)∧w=w':=by
 obtain⟨⟨A,c,M,s,vs,cm,h⟩,hl⟩:=h;obtain⟨c0,f0,s0⟩:=h.blk.facts;clear h hl;go_enter func76,ntmps76
 go_wp2
 go_ret
 exact⟨rfl,rfl⟩
theorem dsize_any (d:Nat) (F:Nat→Prop) (D:Dk) (w:World) (h:DS w d F D) :
  Calls prog 77 #[.pointer (some ⟨d,0,none⟩)] w fun e w'=>e= .returned (.int .i64 D.sz)∧w=w':=by
 obtain⟨⟨A,c,M,s,vs,cm,h⟩,hl⟩:=h;obtain⟨c0,f0,s0⟩:=h.blk.facts;clear h hl;go_enter func77,ntmps77
 go_wp2
 go_ret
 exact⟨rfl,rfl⟩
theorem dcommand_ok (d:Nat) (F:Nat→Prop) (D:Dk) (w:World) (h:DS w d F D) (ha:D.armed=false) :
  Calls prog 100 #[.pointer (some ⟨d,0,none⟩)] w fun e w'=>e= .returned (.int .i64 0)∧DTo w w' d F { D with done:=wrap64 (D.done+1) }:=by
 obtain⟨⟨A,c,M,s,vs,cm,h⟩,hl⟩:=h;obtain⟨c0,f0,s0⟩:=h.blk.facts;rw[ha] at c0;have H:=yH (yA h hl);clear h hl;go_enter func100,ntmps100
 go_wp2
 go_ret
 refine⟨rfl,F,⟨⟨A,c,M,s,vs,cm,?_⟩,fun j hj=>by simpa using H.out.2 j hj⟩,(Chg.refl F w).setCell (p:=⟨d,6,none⟩) (fun _=>H.out.1.inF.1) _,fun _ hj=> .inl hj⟩
 have:=H.out.1.flags (ar:=D.armed) (lf:=D.left) (dn:=D.down) (dd:=wrap64 (D.done+1)) ((Chg.refl (fun j=>j=d) w).setCell (p:=⟨d,6,none⟩) (fun _=>rfl) (.int .i64 (wrap64 (D.done+1)))) (by have:=H.out.1.blk.put 6 (.int .i64 (wrap64 (D.done+1)));simpa using this);exact this
def Dk.rd (D:Dk) (i:Int):List Int:=(D.cache i).getD (D.data i.toNat)
theorem Dk.rd_none {D:Dk} {i:Int} (h:D.cache i=none):D.rd i=D.data i.toNat:=by unfold Dk.rd;rw[h];rfl
theorem Dk.rd_some {D:Dk} {i:Int} {bs:List Int} (h:D.cache i=some bs):D.rd i=bs:=by unfold Dk.rd;rw[h];rfl
theorem DS.rd_len {w:World} {d:Nat} {F:Nat→Prop} {D:Dk} (h:DS w d F D) {i:Int} (h0:0≤i) (h1:i< D.n):(D.rd i).length=D.sz:=by
 obtain⟨⟨A,c,M,s,vs,cm,h⟩,hl⟩:=h
 cases hc:D.cache i with
 | none=>rw[Dk.rd_none hc];obtain⟨v, -, -,h3⟩:=h.dat i.toNat (by omega);exact h3
 | some bs=>rw[Dk.rd_some hc];obtain⟨v, -, -,h3, -⟩:=h.has i bs hc;exact h3
theorem dread_ok (d:Nat) (i:Int) (F:Nat→Prop) (D:Dk) (w:World) (h:DS w d F D) (hd:D.down=false) (h0:0≤i) (h1:i< D.n) :
  Calls prog 113 #[.pointer (some ⟨d,0,none⟩),.int .i64 i] w fun e w'=>OwnOut w w' 5 1 D.sz (bv (D.rd i)) (fun A c=> .tuple #[.slice A D.sz c,.int .i64 0]) e:=by
 have hrl:=h.rd_len h0 h1;have hsm:=h.sml;obtain⟨⟨A,c,M,s,vs,cm,hi⟩,hl⟩:=h;obtain⟨c0,f0,s0⟩:=hi.blk.facts;have HD:=yH (show DS w d F D from⟨⟨A,c,M,s,vs,cm,hi⟩,hl⟩);have hwf:(Lit.int .i64 i).wf=true:=wfInt (by omega) (by omega);have hlk:=hi.map.look_ok (t:=118) kInt underlying3 underlying118 (zBytes _) hwf
 cases hc:D.cache i with
 | some bs=>
  obtain⟨v,hv,hbr,hbl, -⟩:=hi.has i bs hc;obtain⟨a,cv,rfl,hs, -, -⟩:=hbr.open (by omega);clear hbr;rw[hv] at hlk;simp only[Option.getD_some,Option.isSome_some] at hlk;rw[Dk.rd_some hc] at hrl ⊢;have HS:=yH (yA hs hrl);have hbl':bs.length≤1000000:=by omega
  clear hi hl hv hs hc hrl hbl;go_enter func113,ntmps113
  go_wp2_with (first
   | (go_at_call 98;refine(dcheck_ok d i F D _ HD.out hd h0 h1).mono ?_;rintro e w1 ⟨rfl,rfl⟩)
   | (go_at_call 99;refine(bclone_any (some a) (by simp) bs cv _ hbl' HS.out.1).mono ?_;rintro e w2 ⟨A2,c2,rfl,ho2,hg2⟩;have HO:=yH (yA ho2 hg2);clear ho2 hg2))
  go_ret2
  rw[←HS.out.2]
  exact OwnOut.mk A2 c2 rfl HO.out.1 HO.out.2
 | none=>
  rw[hi.no i hc] at hlk;simp only[Option.getD_none,Option.isSome_none] at hlk;obtain⟨v,hv,hbr,hbl⟩:=hi.dat i.toNat (by omega);obtain⟨a,cv,rfl,hs, -, -⟩:=hbr.open (by omega);clear hbr;rw[Dk.rd_none hc] at hrl ⊢;obtain⟨g,rfl,hg⟩:=own_block hi.row (by omega);obtain⟨bb,off,e,hb,hx⟩:=(Sl.of_own hi.row).2 (by omega)
  cases e
  have hcell:=hx i.toNat _ hv;rw[Nat.zero_add] at hcell;have HS:=yH (yA hs hrl);have hbl':(D.data i.toNat).length≤1000000:=by omega
  obtain⟨k,rfl⟩:∃k:Nat,i=(k:Int):=⟨i.toNat,by omega⟩;simp only[Int.toNat_natCast] at hcell HS hbl' ⊢;have u1:(k:Int)< (D.n:Int):=h1;clear hi hl hv hs hc hrl hx hbl;go_enter func113,ntmps113
  go_wp2_with (first
   | (go_at_call 98;refine(dcheck_ok d k F D _ HD.out hd h0 h1).mono ?_;rintro e w1 ⟨rfl,rfl⟩)
   | (go_at_call 99;refine(bclone_any (some a) (by simp) (D.data k) cv _ hbl' HS.out.1).mono ?_;rintro e w2 ⟨A2,c2,rfl,ho2,hg2⟩;have HO:=yH (yA ho2 hg2);clear ho2 hg2))
  go_ret2
  rw[←HS.out.2];exact OwnOut.mk A2 c2 rfl HO.out.1 HO.out.2
def Dk.wr (D:Dk) (i:Int) (bs:List Int):Dk:= { D with cache:=fun j=>if j=i then some bs else D.cache j,done:=wrap64 (D.done+1) }
theorem dwrite_ok (d:Nat) (i:Int) (bs:List Int) (A:Option Addr) (hA:A≠none) (c:Nat) (F:Nat→Prop) (D:Dk) (w:World) (h:DS w d F D) (hd:D.down=false) (ha:D.armed=false) (h0:0≤i) (h1:i< D.n) (hb:bs.length=D.sz) (hs:Sl w 1 A bs.length (bv bs)) :
  Calls prog 62 #[.pointer (some ⟨d,0,none⟩),.int .i64 i,.slice A bs.length c] w fun e w'=>e= .returned (.int .i64 0)∧DTo w w' d F (D.wr i bs):=by
 have hsm:=h.sml;have HD:=yH h;obtain⟨⟨Ad,cd,M,s,vs,cm,hi⟩,hl0⟩:=h;obtain⟨c0,f0,s0⟩:=hi.blk.facts;obtain⟨W0,rfl⟩:∃W0:World,W0=w:=⟨_,rfl⟩;have HS:=yH hs;have HI:=yH (yA hi hl0);have hl:bs.length≤1000000:=by omega
 have Hb:=yH hb;have t1:((bs.length:Int) !=(D.sz:Int))=false:=by simp[hb]
 clear hi hl0 hs hb;go_enter func62,ntmps62
 go_wp2_with (go_at_call 98;refine(dcheck_ok d i F D _ HD.out hd h0 h1).mono ?_;rintro e w1 ⟨rfl,rfl⟩)
 have c02:=c0 2;simp only[List.getElem?_toArray,List.getElem?_cons_zero,List.getElem?_cons_succ] at c02;clear c0 f0;refine wp_region_held_drew (S:=fun w'=>w'.cell? ⟨d,2,none⟩=some (.map (some M))) (by kernel_rfl) c02 (fun hHeld=>?_);refine Todo.out (is:=[0,1,2,3,4,5]) ?_
 repeat
  refine tkH (v:=?_) rfl (Or.inl ⟨by rfl,?_⟩) hHeld ?_;rotate_left
  ·(intro w hSw;(try dsimp only at hSw);go_simp)<;>with_reducible rfl
  (try simp only[Act.put,lY])
 refine Todo.fin ?_;refine rdH (i:=6) (by kernel_rfl) rfl fun K hK=>?_;go_simp;refine(bclone_any A hA bs c _ hl (HS.out.grew ((Chg.refl _ _).drew))).mono ?_;rintro e w4 ⟨A4,c4,rfl,ho4,hg4⟩;have HO:=yH (yA ho4 (show Grew W0 w4 from Grew.trans ((Chg.refl NoF W0).drew) hg4));have hHel2:w4.cell? ⟨d,2,none⟩=some (.map (some M)):=(hg4.cell (p:=⟨d,2,none⟩) s0 id).trans hHeld
 clear ho4 hg4;refine hK.out _ _ hHel2 (fun _=>?_);clear hK K;(try simp only[Act.put,lY])
 obtain⟨w5,hr5,hm5,hc5⟩:=(HI.out.1.map.grew HO.out.2).put (t:=118) kInt underlying3 underlying118 (by have h1:=HI.out.1.sml;have h2:=cntC_le D.n D.cache;simp only[maxLen];omega) (i:=i) (wfInt (by omega) (by omega)) (.slice A4 bs.length c4);have HU:=yH (yA hm5 hc5)
 have hHel5:w5.cell? ⟨d,2,none⟩=some (.map (some M)):=(hc5.cell (p:=⟨d,2,none⟩) (Nat.lt_of_lt_of_le s0 HO.out.2.size) (by simpa using Ne.symm (imap_ne HI.out.1.map HI.out.1.blk))).trans hHel2;clear hm5 hc5;refine rdH (i:=7) (by kernel_rfl) rfl fun K hK=>?_;go_simp;refine hK.out _ _ hHel5 (fun _=>?_);clear hK K;(try simp only[Act.put,lY])
 refine wpAnyH_done (by kernel_rfl) ?_ _
 have hF6:∃F6,DS w5 d F6 { D with cache:=fun j=>if j=i then some bs else D.cache j }∧Chg F W0 w5∧∀j,F6 j→F j∨W0.heap.size≤j:=by
  obtain⟨hi,hl0⟩:=HI.out;have hi4:=hi.chg HO.out.2 (fun _ _=>id);have hM:M≠d:=imap_ne hi.map hi.blk;have hsub:∀j,F j→F j∨W0.heap.size≤j∧j< w4.heap.size:=fun _ h=> .inl h
  have hpast:∀ {v bs'},BRow w4 F v bs'→bs'.length=D.sz→BRow w5 (fun j=>F j∨W0.heap.size≤j∧j< w4.heap.size) v bs':=fun h _=>(h.past HU.out.2 (fun g hg=>hg▸map_notB hi4.map)).mono hsub
  have hnew:BRow w4 (fun j=>F j∨W0.heap.size≤j∧j< w4.heap.size) (.slice A4 bs.length c4) bs:=by
   refine⟨own_base HO.out.1 (Nat.zero_le _),fun g hg=> .inr ?_⟩;have h1:=(HO.out.1.lt g hg).1;have h2:=(HO.out.1.lt g hg).2;exact⟨h1,h2⟩
  refine⟨fun j=>F j∨W0.heap.size≤j∧j< w4.heap.size,⟨⟨Ad,cd,M,_,vs,_,⟨hi4.blk.chg HU.out.2 (Ne.symm hM),own_chg hi4.row HU.out.2 (fun g hg e=>?_),HU.out.1,fun k hk=>?_,fun k hk=>?_,fun k bs' hk=>?_,⟨.inl hi.inF.1,.inl hi.inF.2.1,fun a ha=> .inl (hi.inF.2.2 a ha)⟩,⟨hi.sml.1,hi.sml.2.1,hi.sml.2.2.1,hi.sml.2.2.2.1,?_⟩,hi.id⟩⟩,fun j hj=>?_⟩,?_,fun j hj=>hj.imp id fun e=>e.1⟩
  ·subst e
   obtain⟨E,⟨es,cl,hb, -⟩, -⟩:=hi4.map
   obtain⟨cur, -,hg', -⟩:=own_row (show w4.ownsRow 0 49 1 (.slice (some ⟨g,0,none⟩) D.n cd) D.n vs from by
    rcases hi4.row.2 with ⟨e1, -⟩ | ⟨g',cp,cr,e1, -⟩
    ·rw[e1] at hg;simp[Value.ownBlock] at hg
    ·have:g'=g:=by rw[e1] at hg;simpa [Value.ownBlock] using hg
     subst this;injection e1 with e1 e2 e3;rw[e1] at hi4;exact hi4.row)
   rw[hb] at hg'
   cases hg'
  ·obtain⟨v,h1,h2,h3⟩:=hi4.dat k hk
   exact⟨v,h1,hpast h2 h3,h3⟩
  ·dsimp only at hk
   split at hk
   ·cases hk
   ·rename_i hki
    rw[upd_other hki];exact hi4.no k hk
  ·dsimp only at hk
   split at hk
   ·rename_i hki
    subst hki
    cases hk
    refine⟨_,upd_same _ _ _,hnew.past HU.out.2 (fun g hg=>hg▸map_notB hi4.map),Hb.out,h0,h1⟩
   ·rename_i hki
    obtain⟨v,h1,h2,h3,h4⟩:=hi4.has k bs' hk;exact⟨v,by rw[upd_other hki];exact h1,hpast h2 h3,h3,h4⟩
  ·dsimp only
   rw[cntC_put];have hs:=(yP4 hi.sml)
   cases hc:D.cache i with
   | none=>rw[hi.no i hc];simp;rw[if_pos ⟨h0,h1⟩];omega
   | some b'=>obtain⟨v,hv, -⟩:=hi.has i b' hc;rw[hv];simp;omega
  ·rcases hj with e | e
   ·exact Nat.lt_of_lt_of_le (hl0 j e) (Nat.le_trans HO.out.2.size HU.out.2.size)
   ·exact Nat.lt_of_lt_of_le e.2 HU.out.2.size
  ·exact Chg.trans HO.out.2.chg HU.out.2 fun k _ e=>e▸hi.inF.2.1
 obtain⟨F6,hD6,hc6,hF6⟩:=hF6;have H6:=yH (yA3 hD6 hc6 hF6);clear hD6 hc6 hF6 hHel5 hr5 c02 s0;go_wp2_with fail
 refine(dcommand_ok d F6 _ _ H6.out.1 ha).mono ?_;rintro e w7 ⟨rfl,h7⟩;have H7:=yH h7;clear h7;go_wp2_with fail
 go_ret
 refine⟨rfl,?_⟩;obtain⟨F7,k1,k2,k3⟩:=H7.out;refine⟨F7,k1,Chg.trans H6.out.2.1 k2 fun j hj e=>?_,fun j hj=>?_⟩
 ·rcases H6.out.2.2 j e with h | h
  ·exact h
  ·omega
 ·rcases k3 j hj with h | h
  ·exact H6.out.2.2 j h
  ·exact .inr (Nat.le_trans H6.out.2.1.size h)
end
section
open Go.RowKit
def oI:Option Nat→Int
 | some j=>j
 | none=>0
def oB:Option Nat→Bool
 | some _=>true
 | none=>false
def tab:List Nat:=Lib.deBruijn64tab
theorem pnext_nat (b i:Nat) (x:List Bool) (A:Option Addr) (c:Nat) (w:World) (h:PIn w b x A c) (hl:x.length≤65536) (hi:(i:Int)≤9223372036854775807) (hT:TabAt 0 tab w) :
  Calls prog 96 #[.pointer (some ⟨b,0,none⟩),.int .i64 i] w fun e w'=>e= .returned (.tuple #[.int .i64 (oI (nxt x i)),.bool (oB (nxt x i))])∧w=w':=by
 obtain⟨v,hv⟩:∃v,nxt x i=v:=⟨_,rfl⟩;rw[hv];have HV:=yH hv;obtain⟨c0,f0,s0⟩:=h.blk.facts;have hnl:=nw_le x;have H:=yH (yA h hT);have t0:(0:Int)≤(i:Int):=by omega
 clear h hT hv;go_enter func96,ntmps96
 go_wp2
 go_loop [6] (fun v=>∃k:Nat,v= .int .i64 k∧i / 64≤k∧(k≤nw x∨k=i / 64)∧∀m,i≤m→m< 64*k→x.getD m false=false) (fun v=>nw x - (intOf v).toNat)
 case atStart=>exact⟨i / 64,by simp,Nat.le_refl _,.inr rfl,fun m h1 h2=>absurd h1 (by omega)⟩
 case round=>
  obtain⟨k,rfl,hik,hk,hno⟩:=hrel;have HN:=yH hno;clear hno hk;by_cases hlt:k< nw x
  ·obtain⟨g,rfl,hg,hgb,d0,fr⟩:=H.out.1.word hlt
   by_cases he:k=i / 64
   ·subst he
    obtain⟨W,hW⟩:∃W,wd x (i / 64) / 2 ^ (i % 64)*2 ^ (i % 64)=W:=⟨_,rfl⟩;have hWl:W< 18446744073709551616:=hW▸low_off_lt (wd_lt _ _)
    have key:IntKind.u64.wrap ((wd x (i / 64):Nat) / 2 ^ (i % 64)*2 ^ (i % 64):Int)=(W:Int):=by
     rw[shr_nat,show(2:Int) ^ (i % 64)=((2 ^ (i % 64):Nat):Int) from(Int.natCast_pow 2 (i % 64)).symm,←Int.natCast_mul,hW,wrapU hWl]
    have hw:W=if i / 64=i / 64 then wd x (i / 64) / 2 ^ (i % 64)*2 ^ (i % 64) else wd x (i / 64):=by rw[if_pos rfl,hW]
    by_cases h0:W=0
    ·have t2:((W:Int) !=0)=false:=by simp[h0]
     have hn2:=yH (nxt_miss HN.out (Nat.le_refl _) hw h0);clear h0 hw hW HN;go_wp2
     exact⟨⟨i / 64+1,by simp,by omega,.inl (by omega),hn2.out⟩,by simp[intOf];omega⟩
    ·have t2:((W:Int) !=0)=true:=by rw[bne_iff_ne];omega
     obtain⟨-,hn2⟩:=nxt_hit HN.out (Nat.le_refl _) hlt hw h0;have hc:=ctz_bits h0 hWl;have c1:Lib.ctz 64 W< 64:=hc.1;have H0:=yH h0;have H2:=yH hn2;clear h0 hw hW HN hn2 hc;go_wp2_with (go_at_call 131;refine(tz_any W hWl H0.out _ H.out.2).mono ?_;rintro e w1 ⟨rfl,rfl⟩)
     go_ret2
     refine⟨?_,rfl⟩;rw[←HV.out,H2.out];simp[oI,oB]
     omega
   ·have t1:((k:Int)==(i:Int) / 64)=false:=by rw[beq_eq_false_iff_ne];omega
    obtain⟨W,hW⟩:∃W,wd x k=W:=⟨_,rfl⟩;have hWl:W< 18446744073709551616:=hW▸wd_lt _ _;have hw:W=if k=i / 64 then wd x k / 2 ^ (i % 64)*2 ^ (i % 64) else wd x k:=by rw[if_neg he,hW]
    rw[hW] at d0;by_cases h0:W=0
    ·have t2:((W:Int) !=0)=false:=by simp[h0]
     have hn2:=yH (nxt_miss HN.out hik hw h0);clear h0 hw hW HN he;go_wp2
     exact⟨⟨k+1,by simp,by omega,.inl (by omega),hn2.out⟩,by simp[intOf];omega⟩
    ·have t2:((W:Int) !=0)=true:=by rw[bne_iff_ne];omega
     obtain⟨-,hn2⟩:=nxt_hit HN.out hik hlt hw h0;have hc:=ctz_bits h0 hWl;have c1:Lib.ctz 64 W< 64:=hc.1;have H0:=yH h0;have H2:=yH hn2;clear h0 hw hW HN hn2 hc he;go_wp2_with (go_at_call 131;refine(tz_any W hWl H0.out _ H.out.2).mono ?_;rintro e w1 ⟨rfl,rfl⟩)
     go_ret2
     refine⟨?_,rfl⟩;rw[←HV.out,H2.out];simp[oI,oB]
     omega
  ·have hn2:=yH (nxt_end HN.out (by omega:nw x≤k))
   have t1:decide ((k:Int)< (nw x:Int))=false:=decide_eq_false (by omega);clear HN;go_wp2
   go_ret2
   refine⟨?_,rfl⟩;rw[←HV.out,hn2.out];rfl
end
section
open Go.RowKit
theorem ones_wd (x:List Bool) (k:Nat) (w:World) :
  Calls prog 157 #[.int .u64 (wd x k)] w fun e w'=>e= .returned (.int .i64 (cntN (fun j=>x.getD (64*k+j) false) 64:Nat))∧w=w':=ones_any (fun j=>x.getD (64*k+j) false) w
theorem pfree_any (b:Nat) (x:List Bool) (A:Option Addr) (c:Nat) (w:World) (h:PIn w b x A c) (hl:x.length≤65536) :
  Calls prog 130 #[.pointer (some ⟨b,0,none⟩)] w fun e w'=>e= .returned (.int .i64 (cnt x))∧w=w':=by
 obtain⟨c0,f0,s0⟩:=h.blk.facts;have hnl:=nw_le x;have H:=yH h;clear h;go_enter func130,ntmps130
 go_wp2
 go_loop [3,11] (fun n i=>∃k:Nat,k≤nw x∧i= .int .i64 k∧n= .int .i64 (cntN (fun j=>x.getD j false) (64*k):Nat)) (fun _ i=>nw x - (intOf i).toNat)
 case atStart=>exact⟨0,by omega,rfl,rfl⟩
 case round=>
  obtain⟨k,hk,rfl,rfl⟩:=hrel;by_cases hlt:k< nw x
  ·obtain⟨g,rfl,hg,hgb,d0,fr⟩:=H.out.word hlt
   have b1:=cntN_le (fun j=>x.getD j false) (64*k);have b2:=cntN_le (fun j=>x.getD (64*k+j) false) 64;have hst:=yH (cnt_word x k);obtain⟨n1,hn1⟩:∃n1,cntN (fun j=>x.getD j false) (64*k)=n1:=⟨_,rfl⟩;have Hn1:=yH hn1;rw[hn1] at b1 ⊢;obtain⟨n2,hn2⟩:∃n2,cntN (fun j=>x.getD (64*k+j) false) 64=n2:=⟨_,rfl⟩;have ho:=ones_wd x k;rw[hn2] at b2 ho
   have Ho:=yH ho;have Hn2:=yH hn2;clear hn1 hn2 ho;go_wp2_with (go_at_call 157;refine(Ho.out _).mono ?_;rintro e w1 ⟨rfl,rfl⟩)
   exact⟨⟨k+1,by omega,by simp,by rw[hst.out,Hn1.out,Hn2.out];simp⟩,by simp[intOf];omega⟩
  ·obtain rfl:k=nw x:=by omega
   have hst:=yH (cnt_words x);rw[hst.out];go_wp2
   go_ret
   exact⟨rfl,rfl⟩
theorem ptake_none (b:Nat) (x:List Bool) (A:Option Addr) (c:Nat) (w:World) (h:PIn w b x A c) (hl:x.length≤65536) (hT:TabAt 0 tab w) (hx:nxt x 0=none) :
  Calls prog 59 #[.pointer (some ⟨b,0,none⟩)] w fun e w'=>e= .returned (.tuple #[.int .i64 0,.int .i64 21])∧w=w':=by
 have hn:=pnext_nat b 0 x A c w h hl (by omega) hT;rw[hx] at hn;have Hn:=yH hn;clear hn h hT hx;go_enter func59,ntmps59
 go_wp2_with (go_at_call 96;refine Hn.out.mono ?_;rintro e w1 ⟨rfl,rfl⟩;simp only[oI,oB])
 go_ret2
 exact⟨rfl,rfl⟩
theorem ptake_some (b j:Nat) (x:List Bool) (A:Option Addr) (c:Nat) (w:World) (h:PIn w b x A c) (hl:x.length≤65536) (hT:TabAt 0 tab w) (hx:nxt x 0=some j) :
  Calls prog 59 #[.pointer (some ⟨b,0,none⟩)] w fun e w'=>e= .returned (.tuple #[.int .i64 j,.int .i64 0])∧PIn w' b (trn x j) A c∧Chg (PF b A) w w':=by
 have hn:=pnext_nat b 0 x A c w h hl (by omega) hT;rw[hx] at hn;have hj:=(nxt_some.1 hx).2.1;have H:=yH (yA3 h hn hj);clear hn h hT hx;go_enter func59,ntmps59
 go_wp2_with (first
  | (go_at_call 96;refine H.out.2.1.mono ?_;rintro e w1 ⟨rfl,rfl⟩;simp only[oI,oB])
  | (go_at_call 97;refine(pturn_any b j x A c _ H.out.1 H.out.2.2 hl).mono ?_;rintro e w2 ⟨rfl,hp2,hc2⟩;have H2:=yH (yA hp2 hc2);clear hp2 hc2))
 go_ret2
 exact⟨rfl,H2.out.1,H2.out.2⟩
theorem pto_out (b:Nat) (i:Int) (v:Bool) (x:List Bool) (A:Option Addr) (c:Nat) (w:World) (h:PIn w b x A c) (hi:i< 0∨x.length≤i) :
  Calls prog 106 #[.pointer (some ⟨b,0,none⟩),.int .i64 i,.bool v] w fun e w'=>e= .returned (.int .i64 11)∧w=w':=by
 have H:=yH (yA h hi);clear h hi;go_enter func106,ntmps106
 go_wp2_with (go_at_call 139;refine(pin_no b i x A c _ H.out.1 H.out.2).mono ?_;rintro e w1 ⟨rfl,rfl⟩)
 go_ret
 exact⟨rfl,rfl⟩
theorem pto_state (b i:Nat) (v:Bool) (x:List Bool) (A:Option Addr) (c:Nat) (w:World) (h:PIn w b x A c) (hl:x.length≤65536) (hi:i< x.length) (hx:x.getD i false=v) :
  Calls prog 106 #[.pointer (some ⟨b,0,none⟩),.int .i64 i,.bool v] w fun e w'=>e= .returned (.int .i64 23)∧w=w':=by
 have hh:=phas_yes b i x A c w h hi hl;rw[hx] at hh;have H:=yH (yA3 h hi hh);have t1:(v==v)=true:=by simp
 clear h hi hx hh;go_enter func106,ntmps106
 go_wp2_with (first
  | (go_at_call 139;refine(pin_yes b i x A c _ H.out.1 H.out.2.1).mono ?_;rintro e w1 ⟨rfl,rfl⟩)
  | (go_at_call 140;refine H.out.2.2.mono ?_;rintro e w1 ⟨rfl,rfl⟩))
 go_ret
 exact⟨rfl,rfl⟩
theorem pto_turn (b i:Nat) (v:Bool) (x:List Bool) (A:Option Addr) (c:Nat) (w:World) (h:PIn w b x A c) (hl:x.length≤65536) (hi:i< x.length) (hx:x.getD i false= !v) :
  Calls prog 106 #[.pointer (some ⟨b,0,none⟩),.int .i64 i,.bool v] w fun e w'=>e= .returned (.int .i64 0)∧PIn w' b (trn x i) A c∧Chg (PF b A) w w':=by
 have hh:=phas_yes b i x A c w h hi hl;rw[hx] at hh;have H:=yH (yA3 h hi hh);have t1:((!v)==v)=false:=by cases v<;>rfl
 clear h hi hx hh;go_enter func106,ntmps106
 go_wp2_with (first
  | (go_at_call 139;refine(pin_yes b i x A c _ H.out.1 H.out.2.1).mono ?_;rintro e w1 ⟨rfl,rfl⟩)
  | (go_at_call 140;refine H.out.2.2.mono ?_;rintro e w1 ⟨rfl,rfl⟩)
  | (go_at_call 97;refine(pturn_any b i x A c _ H.out.1 H.out.2.1 hl).mono ?_;rintro e w2 ⟨rfl,hp2,hc2⟩;have H2:=yH (yA hp2 hc2);clear hp2 hc2))
 go_ret
 exact⟨rfl,H2.out.1,H2.out.2⟩
def toL (x:List Bool) (i:Int) (v:Bool):List Bool×Int:=
 if i< 0∨x.length≤i then(x,11) else if x.getD i.toNat false=v then(x,23) else(trn x i.toNat,0)
theorem pto_any (b:Nat) (i:Int) (v:Bool) (x:List Bool) (A:Option Addr) (c:Nat) (w:World) (h:PIn w b x A c) (hl:x.length≤65536) :
  Calls prog 106 #[.pointer (some ⟨b,0,none⟩),.int .i64 i,.bool v] w fun e w'=>e= .returned (.int .i64 (toL x i v).2)∧PIn w' b (toL x i v).1 A c∧Chg (PF b A) w w':=by
 unfold toL;by_cases h1:i< 0∨x.length≤i
 ·rw[if_pos h1]
  exact(pto_out b i v x A c w h h1).mono fun e w' ⟨he,hw⟩=>⟨he,hw▸h,hw▸Chg.refl _ _⟩
 ·obtain⟨k,rfl⟩:=Int.eq_ofNat_of_zero_le (show 0≤i by omega)
  rw[if_neg h1,Int.toNat_natCast];by_cases h2:x.getD k false=v
  ·rw[if_pos h2]
   exact(pto_state b k v x A c w h hl (by omega) h2).mono fun e w' ⟨he,hw⟩=>⟨he,hw▸h,hw▸Chg.refl _ _⟩
  ·rw[if_neg h2]
   exact pto_turn b k v x A c w h hl (by omega) (by revert h2;cases x.getD k false<;>cases v<;>simp)
theorem pmark_any (b:Nat) (i:Int) (x:List Bool) (A:Option Addr) (c:Nat) (w:World) (h:PIn w b x A c) (hl:x.length≤65536) :
  Calls prog 80 #[.pointer (some ⟨b,0,none⟩),.int .i64 i] w fun e w'=>e= .returned (.int .i64 (toL x i false).2)∧PIn w' b (toL x i false).1 A c∧Chg (PF b A) w w':=by
 have H:=yH h;clear h;go_enter func80,ntmps80
 go_wp2_with (go_at_call 106;refine(pto_any b i false x A c _ H.out hl).mono ?_;rintro e w1 ⟨rfl,h1,h2⟩;have H2:=yH (yA h1 h2);clear h1 h2)
 go_ret
 exact⟨rfl,H2.out.1,H2.out.2⟩
theorem pgive_any (b:Nat) (i:Int) (x:List Bool) (A:Option Addr) (c:Nat) (w:World) (h:PIn w b x A c) (hl:x.length≤65536) :
  Calls prog 67 #[.pointer (some ⟨b,0,none⟩),.int .i64 i] w fun e w'=>e= .returned (.int .i64 (toL x i true).2)∧PIn w' b (toL x i true).1 A c∧Chg (PF b A) w w':=by
 have H:=yH h;clear h;go_enter func67,ntmps67
 go_wp2_with (go_at_call 106;refine(pto_any b i true x A c _ H.out hl).mono ?_;rintro e w1 ⟨rfl,h1,h2⟩;have H2:=yH (yA h1 h2);clear h1 h2)
 go_ret
 exact⟨rfl,H2.out.1,H2.out.2⟩
end
section
open Go.RowKit
def full (n:Nat):List Bool:=List.replicate n true
theorem full_len (n:Nat):(full n).length=n:=List.length_replicate
theorem full_at (n i:Nat):(full n).getD i false=decide (i< n):=by
 unfold full;rw[List.getD_eq_getElem?_getD,List.getElem?_replicate];by_cases h:i< n<;>simp[h]
theorem wd_full {n k m:Nat} (h:m=if n - 64*k< 64 then n - 64*k else 64):wd (full n) k=2 ^ m - 1:=by
 apply Nat.eq_of_testBit_eq
 intro j;rw[wd_bit,full_at,Nat.testBit_two_pow_sub_one];by_cases hj:j< 64
 ·simp only[hj,decide_true,Bool.true_and]
  refine decide_eq_decide.2 ?_;split at h<;>omega
 ·have:¬j< m:=by split at h<;>omega
  simp[hj,this]
theorem wds_take {x:List Bool} {k:Nat} (hk:k< nw x):(wds x).take (k+1)=(wds x).take k++[.int .u64 (wd x k)]:=by
 rw[List.take_add_one,wds_at hk];rfl
theorem u64Info:(prog.info? 153).map (fun i=>(i.zero,i.size,i.bytes))=some (some (.int .u64 0),1,8):=by kernel_rfl
def PMade (w w':World) (n:Nat) (e:Ending):Prop:=∃A c,e= .returned (.pointer (some ⟨w.heap.size,0,none⟩))∧PIn w' w.heap.size (full n) A c∧Grew w w'∧∀j,PF w.heap.size A j→w.heap.size≤j
theorem pnew_any (n:Nat) (w:World) (h:n≤65536) :
  Calls prog 79 #[.int .i64 n] w fun e w'=>PMade w w' n e:=by
 obtain⟨i0,hi0,hz0,hz1,hz2⟩:=info_parts u64Info;obtain⟨x,hx⟩:∃x,full n=x:=⟨_,rfl⟩;have hxl:x.length=n:=hx▸full_len n;have hnw:nw x=(n+63) / 64:=by unfold nw;rw[hxl]
 have HX:=yH (yA3 hx hxl hnw);have hB:=yH (Blk.new w 152 #[.int .i64 n,.slice none 0 0]);clear hx hxl hnw;go_enter func79,ntmps79
 go_wp2
 go_loopw [4] (fun at_ wr=>∃ (k:Nat) (A:Option Addr) (c:Nat),at_= .int .i64 (64*(k:Int))∧k≤(n+63) / 64∧Blk wr w.heap.size 152 #[.int .i64 n,.slice A k c]∧wr.ownsRow (w.heap.size+1) 153 1 (.slice A k c) k ((wds x).take k)∧Grew w wr) (fun at_ _=>n - (intOf at_).toNat)
 case atStart=>exact⟨0,none,0,rfl,by omega,hB.out,World.ownsRow_nil _ _ _ _,(Chg.refl _ _).alloc _⟩
 case round=>
  obtain⟨k,A1,c1,rfl,hk,hb,hown,hg⟩:=hrel;obtain⟨c0,f0,s0⟩:=hb.facts;have hsz:=hg.size;have HB:=yH (yA3 hb hown hg);clear hb hown hg;by_cases hlt:64*k< n
  ·have t1:decide (64*(k:Int)< (n:Int))=true:=decide_eq_true (by omega)
   obtain⟨m,hm⟩:∃m,n - 64*k=m:=⟨_,rfl⟩;have hmi:(n:Int) - 64*(k:Int)=(m:Int):=by omega
   have hkn:k< nw x:=by rw[HX.out.2.2];omega
   by_cases hm64:m< 64
   case' _=>
    have t2:decide ((m:Int)< 64)=true:=decide_eq_true (by omega);have hw:=wd_full (n:=n) (k:=k) (m:=m) (by rw[hm,if_pos hm64]);rw[HX.out.1] at hw;have hp:=pow_lt64 hm64;have hp1:1≤2 ^ m:=Nat.one_le_two_pow
    have key:IntKind.u64.wrap (IntKind.u64.wrap ((2:Int) ^ m) - 1)=(wd x k:Int):=by
     rw[show(2:Int) ^ m=((2 ^ m:Nat):Int) from(Int.natCast_pow 2 m).symm,wrapU hp,show((2 ^ m:Nat):Int) - 1=((2 ^ m - 1:Nat):Int) by omega,wrapU (by omega),hw]
    have Hw:=yH (yA4 hw hp hp1 hm);clear hw hp hp1 hm;have hb1:=HB.out.1.lt
    go_wp2_with (at_builtin;refine wpList_append_lies _ rfl _ _ _ rfl (w.heap.size+1) 153 i0 _ 1 8 underlying150 hi0 hz0 hz1 hz2 rfl (by omega) (.slice A1 k c1) k ((wds x).take k) rfl (HB.out.2.1.alloc _) ⟨wr.heap.size,0,none⟩ 1 1 [.int .u64 (wd x k)] rfl rfl (World.news_of_block (cs:= #[.int .u64 (wd x k)]) (t:=153) (fr:=(0,0)) (heap_alloc_new wr _)) (by simp[Value.oneCell']) (by omega) (by simp only[maxLen];omega) (by omega) (by simp;omega) (wr.heap.size+1) (by simp) ?_;intro g cap w1 hown1 hgrow hat hlt1;have HO1:=yH hown1;have HG1:=yH (yA hgrow hat);have hbw:=(HB.out.1.alloc _).grown hgrow (fun e=>by have:=(HB.out.2.1.lt _ e.symm).1;omega);clear hown1 hgrow hat c0 f0 s0;obtain⟨c0,f0,s0⟩:=hbw.facts;have HBW:=yH hbw;clear hbw)
    have hg1:Grew w w1:=(HB.out.2.2.alloc _).grown HG1.out.1 (fun j hj hlt=>by have:=(HB.out.2.1.lt j hj).1;omega);have hO:=HO1.out;rw[←wds_take hkn] at hO
   rotate_left
   case' _=>
    have t2:decide ((m:Int)< 64)=false:=decide_eq_false (by omega);have hw:=yH (show wd x k=18446744073709551615 by rw[←HX.out.1];exact wd_full (n:=n) (k:=k) (m:=64) (by rw[hm,if_neg hm64]));clear hm64;have hb1:=HB.out.1.lt
    go_wp2_with (at_builtin;refine wpList_append_lies _ rfl _ _ _ rfl (w.heap.size+1) 153 i0 _ 1 8 underlying150 hi0 hz0 hz1 hz2 rfl (by omega) (.slice A1 k c1) k ((wds x).take k) rfl (HB.out.2.1.alloc _) ⟨wr.heap.size,0,none⟩ 1 1 [.int .u64 18446744073709551615] rfl rfl (World.news_of_block (cs:= #[.int .u64 18446744073709551615]) (t:=153) (fr:=(0,0)) (heap_alloc_new wr _)) (by simp[Value.oneCell']) (by omega) (by simp only[maxLen];omega) (by omega) (by simp;omega) (wr.heap.size+1) (by simp) ?_;intro g cap w1 hown1 hgrow hat hlt1;have HO1:=yH hown1;have HG1:=yH (yA hgrow hat);have hbw:=(HB.out.1.alloc _).grown hgrow (fun e=>by have:=(HB.out.2.1.lt _ e.symm).1;omega);clear hown1 hgrow hat c0 f0 s0;obtain⟨c0,f0,s0⟩:=hbw.facts;have HBW:=yH hbw;clear hbw)
    have hg1:Grew w w1:=(HB.out.2.2.alloc _).grown HG1.out.1 (fun j hj hlt=>by have:=(HB.out.2.1.lt j hj).1;omega);have hO:=HO1.out;rw[show([Value.int IntKind.u64 18446744073709551615]:List Value)=[.int .u64 (wd x k:Int)] by rw[hw.out];rfl,←wds_take hkn] at hO
   rotate_left
   all_goals
    have hgb:g≠w.heap.size:=fun e=>by have:=(hO.lt g rfl).1;omega
    have hcw:Chg (fun j=>j=w.heap.size) w1 (w1.setCell ⟨w.heap.size,1,none⟩ (.slice (some ⟨g,0,none⟩) (k+1) cap)):=(Chg.refl (fun j=>j=w.heap.size) w1).setCell (p:=⟨w.heap.size,1,none⟩) (fun _=>rfl) _
    refine⟨⟨k+1,some ⟨g,0,none⟩,cap,by simp;omega,by omega,?_,own_chg hO hcw (fun j hj e=>hgb (by simp[Value.ownBlock] at hj;omega)),Chg.trans hg1 hcw fun i hi e=>by omega⟩,by simp[intOf];omega⟩;have:=HBW.out.put 1 (.slice (some ⟨g,0,none⟩) (k+1) cap);simpa using this
  ·have t1:decide (64*(k:Int)< (n:Int))=false:=decide_eq_false (by omega)
   go_wp2
   go_ret
   have hke:k=nw x:=by rw[HX.out.2.2];omega
   have hB2:=HB.out.1;have hO:=HB.out.2.1;have hxl:=HX.out.2.1;rw[List.take_of_length_le (by rw[wds_len];omega)] at hO;rw[hke] at hB2 hO;refine⟨A1,c1,rfl,?_,HB.out.2.2,?_⟩
   ·rw[HX.out.1]
    exact⟨by rw[hxl];exact hB2,own_base hO (Nat.zero_le _)⟩
   ·rintro j (rfl | ⟨a,rfl,rfl⟩)
    ·omega
    ·obtain⟨g,rfl, -⟩:=own_some hO
     have:=(hO.lt g rfl).1;simp only[];omega
end
section
open Go.RowKit
theorem tab_chg {F:Nat→Prop} {w w':World} (h:TabAt 0 tab w) (hc:Chg F w w') (hF:¬F 0):TabAt 0 tab w':=by
 intro j hj;have h1:=h j hj;have hlt:0< w.heap.size:=World.block_lt_of_cell? w _ h1;exact(hc.cell (p:=⟨0,j,none⟩) hlt hF).trans h1
theorem tab_pos {w:World} (h:TabAt 0 tab w):0< w.heap.size:=World.block_lt_of_cell? w _ (h 0 (by decide))
end
section
open Go.RowKit Go.Maps
def To (S:World→(Nat→Prop)→Prop) (w w':World) (F:Nat→Prop):Prop:=∃F',S w' F'∧Chg F w w'∧∀j,F' j→F j∨w.heap.size≤j
section
variable {S S':World→(Nat→Prop)→Prop} {w w' w2:World} {F:Nat→Prop}
theorem To.and (h:To S w w' F) (k:∀F',S w' F'→To S' w' w2 F'):To S' w w2 F:=by
 obtain⟨F',h1,h2,h3⟩:=h;obtain⟨F2,k1,k2,k3⟩:=k F' h1;refine⟨F2,k1,Chg.trans h2 k2 fun i hi hf=>(h3 i hf).resolve_right (by omega),fun j hj=>?_⟩;rcases k3 j hj with e | e
 ·exact h3 j e
 ·exact .inr (Nat.le_trans h2.size e)
theorem To.then {F1:Nat→Prop} (hc:Chg F w w') (hn:∀j,F1 j→F j∨w.heap.size≤j) (k:To S' w' w2 F1):To S' w w2 F:=by
 obtain⟨F2,k1,k2,k3⟩:=k;refine⟨F2,k1,Chg.trans hc k2 fun i hi hf=>(hn i hf).resolve_right (by omega),fun j hj=>?_⟩;rcases k3 j hj with e | e
 ·exact hn j e
 ·exact .inr (Nat.le_trans hc.size e)
theorem To.ahead (hc:Grew w w') (h:To S w' w2 F):To S w w2 F:=by
 obtain⟨F',h1,h2,h3⟩:=h;exact⟨F',h1,hc.then h2,fun j hj=>(h3 j hj).imp id fun e=>Nat.le_trans hc.size e⟩
theorem To.imp (h:To S w w' F) (k:∀F',S w' F'→S' w' F'):To S' w w' F:=by
 obtain⟨F',h1,h2,h3⟩:=h;exact⟨F',k F' h1,h2,h3⟩
theorem To.of (h:S w' F) (hc:Chg F w w'):To S w w' F:=⟨F,h,hc,fun _ e=> .inl e⟩
end
def mB (f:Nat→Bool):Int→Option Value:=fun i=>if 0≤i∧f i.toNat=true then some (.bool true) else none
structure Cg where
 was:List Nat
 fresh:Nat→Bool
 left:List Nat
 touched:Nat→Bool
structure Gp where
 D:Dk
 epoch:Nat
 row:Nat
 pages:List Nat
 table:List Nat
 free:List Bool
 op:Option Cg
 down:Bool
structure Trn (w w':World) (L L':Nat→Nat) (k:Nat):Prop where
 chg:Chg (fun j=>L j=k) w w'
 same:∀j m,m≠0→m≠k→(L' j=m↔L j=m)
 new:∀j,L' j=k→L j=k∨w.heap.size≤j
 lt:∀j,L' j=k→j< w'.heap.size
theorem Trn.keep {w w':World} {L:Nat→Nat} {k:Nat} (h:Chg (fun j=>L j=k) w w') (hl:∀j,L j≠0→j< w.heap.size) (hk:k≠0):Trn w w' L L k:=
 ⟨h,fun _ _ _ _=>Iff.rfl,fun _ e=> .inl e,fun j e=>Nat.lt_of_lt_of_le (hl j (by omega)) h.size⟩
theorem Trn.more {w w':World} {L:Nat→Nat} {k:Nat} {F':Nat→Prop} (h:Chg (fun j=>L j=k) w w') (hl:∀j,L j≠0→j< w.heap.size) (hk:k≠0) (hF:∀j,F' j→L j=k∨w.heap.size≤j) (hlt:∀j,F' j→j< w'.heap.size) :
  ∃L',Trn w w' L L' k∧(∀j,L' j=k↔F' j):=by
 classical
 have hne:∀j m,m≠0→m≠k→L j=m→¬F' j:=fun j m hm hmk e hf=>by
  rcases hF j hf with e1 | e1
  ·omega
  ·have:=hl j (by omega);omega
 have hiff:∀j,(if F' j then k else if L j=k then 0 else L j)=k↔F' j:=fun j=>by
  by_cases hf:F' j
  ·simp[hf]
  ·by_cases hj:L j=k
   ·simp only[hf,hj,if_false,if_true,iff_false];omega
   ·simp[hf,hj]
 refine⟨fun j=>if F' j then k else if L j=k then 0 else L j,⟨h,fun j m hm hmk=>?_,fun j hj=>hF j ((hiff j).1 hj),fun j hj=>hlt j ((hiff j).1 hj)⟩,hiff⟩;by_cases hf:F' j
 ·simp only[hf,if_true]
  exact⟨fun e=>absurd e.symm hmk,fun e=>absurd hf (hne j m hm hmk e)⟩
 ·simp only[hf,if_false]
  by_cases hj:L j=k
  ·simp only[hj,if_true]
   exact⟨fun e=>absurd e.symm hm,fun e=>absurd e.symm hmk⟩
  ·simp[hj]
structure ChIn (w:World) (L:Nat→Nat) (o:Cg) (c:Nat) (vw:Value) (M1 s1:Nat) (vl:Value) (M2 s2:Nat):Prop where
 blk:Blk w c 105 #[vw,.map (some M1),vl,.map (some M2)]
 lc:L c=6
 was:w.ownsRow 0 3 1 vw o.was.length (nv o.was)
 lw:∀j,vw.ownBlock=some j→L j=7
 fr:IMap prog 3 w M1 (mB o.fresh) s1
 lf:L M1=8
 lft:w.ownsRow 0 3 1 vl o.left.length (nv o.left)
 ll:∀j,vl.ownBlock=some j→L j=9
 tch:IMap prog 3 w M2 (mB o.touched) s2
 lt:L M2=10
 n1:s1=cntN o.fresh 4096∧∀j,o.fresh j=true→j< 4096
 n2:s2=cntN o.touched 64∧∀j,o.touched j=true→j< 64
def OpnIn (w:World) (L:Nat→Nat) (vo:Option Addr):Option Cg→Prop
 | none=>vo=none
 | some o=>∃c vw M1 s1 vl M2 s2,vo=some ⟨c,0,none⟩∧ChIn w L o c vw M1 s1 vl M2 s2
structure GIn (w:World) (L:Nat→Nat) (p:Nat) (X:Gp) (d b:Nat) (A:Option Addr) (ca:Nat) (vp vt:Value) (vo:Option Addr):Prop where
 blk:Blk w p 101 #[.pointer (some ⟨d,0,none⟩),.int .i64 X.epoch,.int .i64 X.row,vp,vt,.pointer (some ⟨b,0,none⟩),.pointer vo,.bool X.down]
 lp:L p=1
 dsk:DS w d (fun j=>L j=2) X.D
 pol:PIn w b X.free A ca
 lo:∀j,PF b A j→L j=3
 pgs:w.ownsRow 0 3 1 vp X.pages.length (nv X.pages)
 lg:∀j,vp.ownBlock=some j→L j=4
 tbl:w.ownsRow 0 3 1 vt X.table.length (nv X.table)
 lb:∀j,vt.ownBlock=some j→L j=5
 opn:OpnIn w L vo X.op
 lt:∀j,L j≠0→j< w.heap.size
 l0:L 0=0
 tab:TabAt 0 tab w
def GS (w:World) (p:Nat) (F:Nat→Prop) (X:Gp):Prop:=∃L d b A ca vp vt vo,GIn w L p X d b A ca vp vt vo∧∀j,F j↔L j≠0
def GTo (w w':World) (p:Nat) (F:Nat→Prop) (X:Gp):Prop:=To (fun w F=>GS w p F X) w w' F
section
variable {w w' w2:World} {L L':Nat→Nat} {p d b ca c M1 s1 M2 s2 k:Nat} {X X':Gp} {o:Cg} {A:Option Addr} {vp vt vw vl:Value} {vo:Option Addr} {F:Nat→Prop}
theorem own_lab {base s n m:Nat} {e:TypeId} {v:Value} {xs:List Value} (h:w.ownsRow base e s v n xs) (hl:∀j,v.ownBlock=some j→L j=m) (hc:Chg (fun j=>L j=k) w w') (hk:m≠k):w'.ownsRow base e s v n xs:=
 own_chg h hc fun g hg e=>hk ((hl g hg).symm.trans e)
theorem ChIn.keep (h:ChIn w L o c vw M1 s1 vl M2 s2) (ht:Trn w w' L L' k) (hk:k≠6∧k≠7∧k≠8∧k≠9∧k≠10):ChIn w' L' o c vw M1 s1 vl M2 s2:=
 ⟨h.blk.chg ht.chg (by rw[h.lc];omega),(ht.same _ 6 (by omega) (by omega)).2 h.lc,own_lab h.was h.lw ht.chg (by omega),fun j hj=>(ht.same _ 7 (by omega) (by omega)).2 (h.lw j hj),
  h.fr.chg ht.chg (by rw[h.lf];omega),(ht.same _ 8 (by omega) (by omega)).2 h.lf,own_lab h.lft h.ll ht.chg (by omega),fun j hj=>(ht.same _ 9 (by omega) (by omega)).2 (h.ll j hj),
  h.tch.chg ht.chg (by rw[h.lt];omega),(ht.same _ 10 (by omega) (by omega)).2 h.lt,h.n1,h.n2⟩
theorem OpnIn.keep {oo:Option Cg} (h:OpnIn w L vo oo) (ht:Trn w w' L L' k) (hk:k≠6∧k≠7∧k≠8∧k≠9∧k≠10):OpnIn w' L' vo oo:=by
 cases oo with
 | none=>exact h
 | some o=>
  obtain⟨c,vw,M1,s1,vl,M2,s2,e,hi⟩:=h;exact⟨c,vw,M1,s1,vl,M2,s2,e,hi.keep ht hk⟩
theorem lab_set (ht:Trn w w' L L' k) {m:Nat} (hm:m≠0) (hk:m≠k):(fun j=>L' j=m)=(fun j=>L j=m):=funext fun j=>propext (ht.same j m hm hk)
theorem dsk_keep {D:Dk} (h:DS w d (fun j=>L j=2) D) (ht:Trn w w' L L' k) (hk:k≠2):DS w' d (fun j=>L' j=2) D:=by
 rw[lab_set ht (by omega) (Ne.symm hk)];exact h.chg ht.chg fun j hj e=>hk (e.symm.trans hj)
theorem lab_lt (hl:∀j,L j≠0→j< w.heap.size) (ht:Trn w w' L L' k):∀j,L' j≠0→j< w'.heap.size:=fun j hj=>by
 by_cases e:L' j=k
 ·exact ht.lt j e
 ·exact Nat.lt_of_lt_of_le (hl j (by have:=(ht.same j (L' j) hj e).1 rfl;omega)) ht.chg.size
theorem lab_zero (h0:L 0=0) (ht:Trn w w' L L' k) (hk:k≠0) (hs:0< w.heap.size):L' 0=0:=by
 by_cases e:L' 0=k
 ·rcases ht.new 0 e with e1 | e1<;>omega
 ·by_cases e0:L' 0=0
  ·exact e0
  ·have:=(ht.same 0 (L' 0) e0 e).1 rfl;omega
theorem GIn.chg {G:Nat→Prop} (h:GIn w L p X d b A ca vp vt vo) (hc:Chg G w w') (hG:∀j,L j≠0→¬G j) (hG0:¬G 0):GIn w' L p X d b A ca vp vt vo:=by
 have hl:∀j m,m≠0→L j=m→¬G j:=fun j m hm e=>hG j (by omega)
 refine⟨h.blk.chg hc (hl _ 1 (by omega) h.lp),h.lp,h.dsk.chg hc fun j hj=>hl j 2 (by omega) hj,h.pol.chg hc fun j hj=>hl j 3 (by omega) (h.lo j hj),h.lo,
  own_chg h.pgs hc fun j hj=>hl j 4 (by omega) (h.lg j hj),h.lg,own_chg h.tbl hc fun j hj=>hl j 5 (by omega) (h.lb j hj),h.lb,?_,fun j hj=>Nat.lt_of_lt_of_le (h.lt j hj) hc.size,h.l0,tab_chg h.tab hc hG0⟩
 have ho:=h.opn;revert ho
 cases X.op with
 | none=>exact id
 | some o=>
  rintro⟨c,vw,M1,s1,vl,M2,s2,e,hi⟩
  exact⟨c,vw,M1,s1,vl,M2,s2,e,hi.blk.chg hc (hl _ 6 (by omega) hi.lc),hi.lc,own_chg hi.was hc fun j hj=>hl j 7 (by omega) (hi.lw j hj),hi.lw,hi.fr.chg hc (hl _ 8 (by omega) hi.lf),hi.lf,
   own_chg hi.lft hc fun j hj=>hl j 9 (by omega) (hi.ll j hj),hi.ll,hi.tch.chg hc (hl _ 10 (by omega) hi.lt),hi.lt,hi.n1,hi.n2⟩
theorem GIn.grew (h:GIn w L p X d b A ca vp vt vo) (hc:Grew w w'):GIn w' L p X d b A ca vp vt vo:=h.chg hc (fun _ _=>id) id
theorem GS.chg {G:Nat→Prop} (h:GS w p F X) (hc:Chg G w w') (hG:∀j,F j→¬G j) (hG0:¬G 0):GS w' p F X:=by
 obtain⟨L,d,b,A,ca,vp,vt,vo,h,hF⟩:=h;exact⟨L,d,b,A,ca,vp,vt,vo,h.chg hc (fun j hj=>hG j ((hF j).2 hj)) hG0,hF⟩
theorem GS.grew (h:GS w p F X) (hc:Grew w w'):GS w' p F X:=h.chg hc (fun _ _=>id) id
theorem GS.lt (h:GS w p F X):∀j,F j→j< w.heap.size:=by
 obtain⟨L,d,b,A,ca,vp,vt,vo,h,hF⟩:=h;exact fun j hj=>h.lt j ((hF j).1 hj)
theorem GS.zero (h:GS w p F X):¬F 0:=by
 obtain⟨L,d,b,A,ca,vp,vt,vo,h,hF⟩:=h;exact fun e=>(hF 0).1 e h.l0
theorem GS.tab (h:GS w p F X):TabAt 0 tab w:=by
 obtain⟨L,d,b,A,ca,vp,vt,vo,h,hF⟩:=h;exact h.tab
theorem GS.to (h:GS w p F X) (hc:Grew w w'):GTo w w' p F X:=To.of (h.grew hc) hc.chg
theorem GIn.gs (h:GIn w L p X d b A ca vp vt vo):GS w p (fun j=>L j≠0) X:=⟨L,d,b,A,ca,vp,vt,vo,h,fun _=>Iff.rfl⟩
theorem GIn.to (h:GIn w' L' p X d b A ca vp vt vo) (ht:Trn w w' L L' k) (hk:k≠0) (hF:∀j,F j↔L j≠0):GTo w w' p F X:=
 ⟨fun j=>L' j≠0,h.gs,ht.chg.mono fun i _ e=>(hF i).2 (by omega),fun j hj=>by
  by_cases e:L' j=k
  ·exact(ht.new j e).imp (fun e1=>(hF j).2 (by omega)) id
  ·exact .inl ((hF j).2 (by have:=(ht.same j (L' j) hj e).1 rfl;omega))⟩
end
end
section
open Go.RowKit Go.Maps
theorem gsize_any (p:Nat) (F:Nat→Prop) (X:Gp) (w:World) (h:GS w p F X) :
  Calls prog 58 #[.pointer (some ⟨p,0,none⟩)] w fun e w'=>e= .returned (.int .i64 X.D.sz)∧w=w':=by
 obtain⟨L,d,b,A,ca,vp,vt,vo,h,hF⟩:=h;obtain⟨c0,f0,s0⟩:=h.blk.facts;have H:=yH h;clear h hF;go_enter func58,ntmps58
 go_wp2_with (go_at_call 77;(refine(dsize_any d _ _ _ H.out.dsk).mono ?_);rintro e w1 ⟨rfl,rfl⟩)
 go_ret
 exact⟨rfl,rfl⟩
def Gp.rdy (X:Gp):Int:=if X.down then 20 else match X.op with | none=>23 | some _=>0
theorem gready_any (p:Nat) (F:Nat→Prop) (X:Gp) (w:World) (h:GS w p F X) :
  Calls prog 54 #[.pointer (some ⟨p,0,none⟩)] w fun e w'=>e= .returned (.int .i64 X.rdy)∧w=w':=by
 obtain⟨L,d,b,A,ca,vp,vt,vo,h,hF⟩:=h;obtain⟨c0,f0,s0⟩:=h.blk.facts;have ho:=h.opn
 cases hd:X.down with
 | true=>
  have hr:X.rdy=20:=by unfold Gp.rdy;rw[hd];rfl
  rw[hr];rw[hd] at c0;clear h hF hd hr ho;go_enter func54,ntmps54
  go_wp2
  go_ret
  exact⟨rfl,rfl⟩
 | false=>
  rw[hd] at c0
  cases hx:X.op with
  | none=>
   rw[hx] at ho;obtain rfl:vo=none:=ho;have hr:X.rdy=23:=by unfold Gp.rdy;rw[hd,hx];rfl
   rw[hr];clear h hF hd hr hx;go_enter func54,ntmps54
   go_wp2
   go_ret
   exact⟨rfl,rfl⟩
  | some o=>
   rw[hx] at ho;obtain⟨c,vw,M1,s1,vl,M2,s2,rfl, -⟩:=ho;have hr:X.rdy=0:=by unfold Gp.rdy;rw[hd,hx];rfl
   rw[hr];clear h hF hd hr hx;go_enter func54,ntmps54
   go_wp2
   go_ret
   exact⟨rfl,rfl⟩
def Gp.usedB (X:Gp) (i:Int):Bool:=decide (0≤i) && (X.table.getD i.toNat 0 !=0)
theorem gused_no (p:Nat) (i:Int) (F:Nat→Prop) (X:Gp) (w:World) (h:GS w p F X) (hl:X.table.length≤1000000) (hi:i< 0∨X.table.length≤i) :
  Calls prog 57 #[.pointer (some ⟨p,0,none⟩),.int .i64 i] w fun e w'=>e= .returned (.bool false)∧w=w':=by
 obtain⟨L,d,b,A,ca,vp,vt,vo,h,hF⟩:=h;obtain⟨c0,f0,s0⟩:=h.blk.facts;obtain⟨At,ct,rfl, -⟩:=own_shape h.tbl;by_cases h0:i< 0
 ·have a1:decide (0≤i)=false:=decide_eq_false (by omega)
  clear h hF hi h0;go_enter func57,ntmps57
  go_wp2
  go_ret
  exact⟨rfl,rfl⟩
 ·have a1:decide (0≤i)=true:=decide_eq_true (by omega)
  have a2:decide (i< (X.table.length:Int))=false:=decide_eq_false (by omega);clear h hF hi h0;go_enter func57,ntmps57
  go_wp2
  go_ret
  exact⟨rfl,rfl⟩
theorem GIn.entry {w:World} {L:Nat→Nat} {p:Nat} {X:Gp} {d b:Nat} {A:Option Addr} {ca:Nat} {vp vt:Value} {vo:Option Addr} (h:GIn w L p X d b A ca vp vt vo) {i s:Nat} (hs:X.table[i]? =some s) :
  ∃g ct,vt= .slice (some ⟨g,0,none⟩) X.table.length ct∧g< w.heap.size∧L g=5∧w.cell? ⟨g,i,none⟩=some (.int .i64 s)∧w.frozen? ⟨g,i,none⟩=false:=by
 have hi:i< X.table.length:=(List.getElem?_eq_some_iff.1 hs).1;obtain⟨At,ct,rfl, -⟩:=own_shape h.tbl;obtain⟨g,rfl,hg⟩:=own_block h.tbl (by omega);obtain⟨cur, -,hgc, -, -,hcs,htake, -⟩:=own_row h.tbl;refine⟨g,ct,rfl,hg,h.lb g rfl,?_,(show Blk w g _ cur from hgc).frozen _⟩;have:=h.tbl.cells (g:=g) rfl i (.int .i64 s) (by simp[nv,hs])
 rwa[Addr.add_lit,Nat.zero_add] at this
theorem gused_in (p i s:Nat) (F:Nat→Prop) (X:Gp) (w:World) (h:GS w p F X) (hl:X.table.length≤1000000) (hs:X.table[i]? =some s) :
  Calls prog 57 #[.pointer (some ⟨p,0,none⟩),.int .i64 i] w fun e w'=>e= .returned (.bool (s !=0))∧w=w':=by
 obtain⟨L,d,b,A,ca,vp,vt,vo,h,hF⟩:=h;obtain⟨c0,f0,s0⟩:=h.blk.facts;have hi:i< X.table.length:=(List.getElem?_eq_some_iff.1 hs).1;obtain⟨g,ct,rfl,hg, -,hc, -⟩:=h.entry hs;have a1:decide ((0:Int)≤(i:Int))=true:=decide_eq_true (by omega);have a2:decide ((i:Int)< (X.table.length:Int))=true:=decide_eq_true (by omega);clear h hF hs;by_cases h0:s=0
 ·subst h0
  go_enter func57,ntmps57
  go_wp2
  go_ret
  exact⟨rfl,rfl⟩
 ·have e1:(s !=0)=true:=by simpa using h0
  have e2:((s:Int) !=0)=true:=by simpa using h0
  rw[e1];clear h0 e1;go_enter func57,ntmps57
  go_wp2
  go_ret
  exact⟨rfl,rfl⟩
end
section
open Go.RowKit Go.Maps
theorem zBool (w:World):(zeroValue 4).run prog w= .ok (.bool false) w:=by kernel_rfl
theorem mB_nat (f:Nat→Bool) (k:Nat):mB f (k:Int)=if f k then some (.bool true) else none:=by
 unfold mB;simp
theorem mB_getD (f:Nat→Bool) (k:Nat):(mB f (k:Int)).getD (.bool false)= .bool (f k):=by
 rw[mB_nat]
 cases f k<;>rfl
def setB (f:Nat→Bool) (k:Nat) (v:Bool):Nat→Bool:=fun j=>if j=k then v else f j
theorem mB_put (f:Nat→Bool) (k:Nat):upd (mB f) (k:Int) (some (.bool true))=mB (setB f k true):=by
 funext i
 by_cases h:i=(k:Int)
 ·subst h;rw[upd_same,mB_nat];simp[setB]
 ·rw[upd_other h]
  unfold mB setB;by_cases h0:0≤i
  ·rw[if_neg (show¬i.toNat=k by omega)]
  ·simp[h0]
theorem mB_del (f:Nat→Bool) (k:Nat):upd (mB f) (k:Int) none=mB (setB f k false):=by
 funext i
 by_cases h:i=(k:Int)
 ·subst h;rw[upd_same,mB_nat];simp[setB]
 ·rw[upd_other h]
  unfold mB setB;by_cases h0:0≤i
  ·rw[if_neg (show¬i.toNat=k by omega)]
  ·simp[h0]
theorem cntN_set (f:Nat→Bool) (k:Nat) (v:Bool):∀n,k< n→cntN (setB f k v) n+(if f k then 1 else 0)=cntN f n+(if v then 1 else 0)
 | 0,h=>by omega
 | n+1,h=>by
  rw[cntN_succ,cntN_succ];by_cases e:k=n
  ·subst e
   have:cntN (setB f k v) k=cntN f k:=cntN_ext fun j hj=>by unfold setB;rw[if_neg (by omega)]
   rw[this];have:setB f k v k=v:=by simp[setB]
   rw[this];omega
  ·have ih:=cntN_set f k v n (by omega)
   have:setB f k v n=f n:=by unfold setB;rw[if_neg (by omega)]
   rw[this];omega
theorem cntN_yes (f:Nat→Bool) {k n:Nat} (h:k< n) (hf:f k=false):cntN (setB f k true) n=cntN f n+1:=by
 have:=cntN_set f k true n h;rw[hf] at this;simpa using this
theorem cntN_drop (f:Nat→Bool) {k n:Nat} (h:k< n) (hf:f k=true):cntN (setB f k false) n+1=cntN f n:=by
 have:=cntN_set f k false n h;rw[hf] at this;simpa using this
section
variable {w w':World} {L L':Nat→Nat} {p d b ca:Nat} {X X':Gp} {A:Option Addr} {vp vt vp' vt':Value} {vo vo':Option Addr}
theorem GIn.re (h:GIn w L p X d b A ca vp vt vo) (ht:Trn w w' L L' 1) (hl:L' p=1) (hX:X'.D=X.D∧X'.free=X.free∧X'.pages=X.pages∧X'.table=X.table)
  (hb:Blk w' p 101 #[.pointer (some ⟨d,0,none⟩),.int .i64 X'.epoch,.int .i64 X'.row,vp,vt,.pointer (some ⟨b,0,none⟩),.pointer vo',.bool X'.down]) (ho:OpnIn w' L' vo' X'.op):GIn w' L' p X' d b A ca vp vt vo':=by
 obtain⟨e1,e2,e3,e4⟩:=hX;have h0:=tab_pos h.tab
 refine⟨hb,hl,by rw[e1];exact dsk_keep h.dsk ht (by omega),by rw[e2];exact h.pol.chg ht.chg fun j hj e=>by have:=h.lo j hj;omega,fun j hj=>(ht.same j 3 (by omega) (by omega)).2 (h.lo j hj),
  by rw[e3];exact own_lab h.pgs h.lg ht.chg (by omega),fun j hj=>(ht.same j 4 (by omega) (by omega)).2 (h.lg j hj),by rw[e4];exact own_lab h.tbl h.lb ht.chg (by omega),fun j hj=>(ht.same j 5 (by omega) (by omega)).2 (h.lb j hj),ho,
  lab_lt h.lt ht,lab_zero h.l0 ht (by omega) h0,tab_chg h.tab ht.chg (by rw[h.l0];omega)⟩
end
def Gp.room (X:Gp):Int:=match X.op with | none=>(cnt X.free:Int) | some o=>(cnt X.free:Int) - (cntN o.touched 64:Int)
theorem groom_any (p:Nat) (F:Nat→Prop) (X:Gp) (w:World) (h:GS w p F X) (hl:X.free.length≤65536) :
  Calls prog 95 #[.pointer (some ⟨p,0,none⟩)] w fun e' w'=>e'= .returned (.int .i64 X.room)∧Grew w w':=by
 obtain⟨L,d,b,A,ca,vp,vt,vo,h,hF⟩:=h;obtain⟨c0,f0,s0⟩:=h.blk.facts;have hcl:cnt X.free≤65536:=Nat.le_trans (cntN_le _ _) hl;have ho:=h.opn;have H:=yH h
 cases hx:X.op with
 | none=>
  rw[hx] at ho;obtain rfl:vo=none:=ho;have hr:X.room=(cnt X.free:Int):=by unfold Gp.room;rw[hx]
  rw[hr];clear h hF hr hx;go_enter func95,ntmps95
  go_wp2_with (go_at_call 130;(refine(pfree_any b X.free A ca _ H.out.pol hl).mono ?_);rintro e w1 ⟨rfl,rfl⟩)
  go_ret
  exact⟨rfl,Chg.refl _ _⟩
 | some o=>
  rw[hx] at ho;obtain⟨c,vw,M1,s1,vl,M2,s2,rfl,hi⟩:=ho;obtain⟨c1,f1,s1'⟩:=hi.blk.facts;have hlen:∀n:Nat,(Builtin.len_ #[103] 3 #[.map (some M2)]).run prog (w.drewN n)= .ok (.int .i64 s2) (w.drewN n):=fun n=>(hi.tch.grew ((Chg.refl _ _).drewN n)).len underlying103 _;have h2:=hi.n2.1;have hle:s2≤64:=by rw[h2];exact cntN_le _ _
  have hr:X.room=(cnt X.free:Int) - (s2:Int):=by unfold Gp.room;rw[hx,h2]
  rw[hr];clear h hF hr hx hi h2;go_enter func95,ntmps95
  go_wp2
  go_quiet ((go_at_call 130;exact Calls.quiet_of_same ((pfree_any b X.free A ca _ (H.out.pol.grew ((Chg.refl _ _).drewN _)) hl).mono fun _ _ h=>⟨h.1,h.2.symm⟩)))
  go_wp2
  go_ret
  exact⟨rfl,(Chg.refl _ _).drewN _⟩
def Gp.touch (X:Gp) (o:Cg) (k:Nat):Gp:= { X with op:=some { o with touched:=setB o.touched k true } }
def Cg.more (o:Cg) (k m:Nat):Nat:=m+if o.touched k then 0 else 1
section
variable {w w':World} {L L':Nat→Nat} {p d b ca c M1 s1 M2 s2:Nat} {X:Gp} {o o':Cg} {A:Option Addr} {vp vt vw vl:Value} {vo:Option Addr}
theorem GIn.opn_ (h:GIn w L p X d b A ca vp vt vo) {k:Nat} (ht:Trn w w' L L' k) (hk:6≤k) (ho:OpnIn w' L' vo (some o')):GIn w' L' p { X with op:=some o' } d b A ca vp vt vo:=by
 have h0:=tab_pos h.tab
 refine⟨h.blk.chg ht.chg (by rw[h.lp];omega),(ht.same p 1 (by omega) (by omega)).2 h.lp,dsk_keep h.dsk ht (by omega),h.pol.chg ht.chg fun j hj e=>by have:=h.lo j hj;omega,fun j hj=>(ht.same j 3 (by omega) (by omega)).2 (h.lo j hj),
  own_lab h.pgs h.lg ht.chg (by omega),fun j hj=>(ht.same j 4 (by omega) (by omega)).2 (h.lg j hj),own_lab h.tbl h.lb ht.chg (by omega),fun j hj=>(ht.same j 5 (by omega) (by omega)).2 (h.lb j hj),ho,
  lab_lt h.lt ht,lab_zero h.l0 ht (by omega) h0,tab_chg h.tab ht.chg (by rw[h.l0];omega)⟩
end
theorem gtouch_full (p i k m:Nat) (F:Nat→Prop) (X:Gp) (o:Cg) (w:World) (h:GS w p F X) (hx:X.op=some o) (hl:X.free.length≤65536) (hr:0< X.row) (hk:i / X.row=k) (hi:i≤1000000) (hm:m≤10) (hf:X.room< (o.more k m:Nat)) :
  Calls prog 56 #[.pointer (some ⟨p,0,none⟩),.int .i64 i,.int .i64 m] w fun e' w'=>e'= .returned (.int .i64 21)∧Grew w w':=by
 have HG:=yH h;obtain⟨L,d,b,A,ca,vp,vt,vo,h,hF⟩:=h;obtain⟨c0,f0,s0⟩:=h.blk.facts;have ho:=h.opn;rw[hx] at ho;obtain⟨c,vw,M1,s1,vl,M2,s2,rfl,hi2⟩:=ho;obtain⟨c1,f1,s1'⟩:=hi2.blk.facts;have hkd:(i:Int) / (X.row:Int)=(k:Int):=by rw[←hk];simp
 have hki:k≤i:=hk▸Nat.div_le_self _ _;have hlk:=hi2.tch.look (t:=103) kInt underlying3 underlying103 (zBool w) (i:=(k:Int)) (wfInt (by omega) (by omega));rw[mB_getD] at hlk;have hrow:(X.row:Int)≠0:=by omega
 have hrow1:(0:Int)< (X.row:Int):=by omega
 have hroom:=fun u hu=>groom_any p F X u (HG.out.grew hu) hl;have HR:=yH hroom;clear h hF hk hi2 hroom
 cases ht:o.touched k with
 | true=>
  have hmm:o.more k m=m:=by unfold Cg.more;rw[ht];rfl
  have a1:decide (X.room< (m:Int))=true:=decide_eq_true (by rw[hmm] at hf;exact hf);rw[ht] at hlk;clear hf hmm ht;go_enter func56,ntmps56
  go_wp2_with (go_at_call 95;(refine(HR.out _ (Chg.refl _ _)).mono ?_);rintro e w1 ⟨rfl,hg1⟩;have HG1:=yH hg1;clear hg1)
  go_ret
  exact⟨rfl,HG1.out⟩
 | false=>
  have hmm:o.more k m=m+1:=by unfold Cg.more;rw[ht];rfl
  have a1:decide (X.room< (m:Int)+1)=true:=decide_eq_true (by rw[hmm] at hf;omega);rw[ht] at hlk;clear hf hmm ht;go_enter func56,ntmps56
  go_wp2_with (go_at_call 95;(refine(HR.out _ (Chg.refl _ _)).mono ?_);rintro e w1 ⟨rfl,hg1⟩;have HG1:=yH hg1;clear hg1)
  go_ret
  exact⟨rfl,HG1.out⟩
theorem gtouch_ok (p i k m:Nat) (F:Nat→Prop) (X:Gp) (o:Cg) (w:World) (h:GS w p F X) (hx:X.op=some o) (hl:X.free.length≤65536) (hr:0< X.row) (hk:i / X.row=k) (hk64:k< 64) (hi:i≤1000000) (hm:m≤10) (hf:(o.more k m:Nat)≤X.room) :
  Calls prog 56 #[.pointer (some ⟨p,0,none⟩),.int .i64 i,.int .i64 m] w fun e' w'=>e'= .returned (.int .i64 0)∧GTo w w' p F (X.touch o k):=by
 have HG:=yH h;obtain⟨L,d,b,A,ca,vp,vt,vo,h,hF⟩:=h;obtain⟨c0,f0,s0⟩:=h.blk.facts;have ho:=h.opn;rw[hx] at ho;obtain⟨c,vw,M1,s1,vl,M2,s2,rfl,hi2⟩:=ho;obtain⟨c1,f1,s1'⟩:=hi2.blk.facts;have hkd:(i:Int) / (X.row:Int)=(k:Int):=by rw[←hk];simp
 have hki:k≤i:=hk▸Nat.div_le_self _ _;have hlk:=hi2.tch.look (t:=103) kInt underlying3 underlying103 (zBool w) (i:=(k:Int)) (wfInt (by omega) (by omega));rw[mB_getD] at hlk;have hrow:(X.row:Int)≠0:=by omega
 have hrow1:(0:Int)< (X.row:Int):=by omega
 have hroom:∀u,Grew w u→Calls prog 95 #[.pointer (some ⟨p,0,none⟩)] u fun e' w'=>e'= .returned (.int .i64 X.room)∧∃W,(Instr.mapUpdate 103 (.map (some M2)) (.int .i64 k) (.bool true)).run prog w'= .ok () W∧Grew w w'∧GTo w W p F (X.touch o k):=fun u hu=>by
  refine(groom_any p F X u (HG.out.grew hu) hl).mono ?_;rintro e w1 ⟨rfl,hg⟩;have hg1:=Grew.trans hu hg;obtain⟨W,hr,hm2,hc⟩:=(hi2.tch.grew hg1).put (t:=103) kInt underlying3 underlying103 (by have:=hi2.n2.1;have:=cntN_le o.touched 64;simp only[maxLen];omega) (i:=(k:Int)) (wfInt (by omega) (by omega)) (.bool true);refine⟨rfl,W,hr,hg1,?_⟩
  have hcl:Chg (fun j=>L j=10) w W:=Grew.then hg1 (hc.mono fun i _ e=>e▸hi2.lt);have ht:=Trn.keep hcl h.lt (by omega);have hi3:=hi2
  refine(h.opn_ (o':= { o with touched:=setB o.touched k true }) ht (by omega) ⟨c,vw,M1,s1,vl,M2,_,rfl,⟨hi2.blk.chg hcl (by rw[hi2.lc];omega),hi2.lc,own_lab hi2.was hi2.lw hcl (by omega),hi2.lw,hi2.fr.chg hcl (by rw[hi2.lf];omega),hi2.lf,own_lab hi2.lft hi2.ll hcl (by omega),hi2.ll,by rw[mB_put] at hm2;exact hm2,hi2.lt,hi2.n1,?_,fun j hj=>?_⟩⟩).to ht (by omega) hF
  ·rw[mB_nat]
   cases hq:o.touched k with
   | true=>
    have e:setB o.touched k true=o.touched:=by funext j;unfold setB;split<;>simp_all
    simp[e,hi2.n2.1]
   | false=>simp[cntN_yes o.touched hk64 hq,hi2.n2.1]
  ·by_cases e:j=k
   ·omega
   ·exact hi2.n2.2 j (by simpa [setB,e] using hj)
 have HR:=yH (yA hroom hi2.blk);have HB:=yH h.blk;clear h hF hk hi2 hroom
 cases ht:o.touched k with
 | true=>
  have hmm:o.more k m=m:=by unfold Cg.more;rw[ht];rfl
  have a1:decide (X.room< (m:Int))=false:=decide_eq_false (by rw[hmm] at hf;omega);rw[ht] at hlk;clear hf hmm ht;go_enter func56,ntmps56
  go_wp2_with (go_at_call 95;(refine(HR.out.1 _ (Chg.refl _ _)).mono ?_);rintro e w1 ⟨rfl,W,hr1,hg1,hto⟩;obtain⟨c2,f2,s2'⟩:=(HB.out.grew hg1).facts;obtain⟨c3,f3,s3'⟩:=(HR.out.2.grew hg1).facts;have HT:=yH hto;clear hto hg1)
  go_ret
  exact⟨rfl,HT.out⟩
 | false=>
  have hmm:o.more k m=m+1:=by unfold Cg.more;rw[ht];rfl
  have a1:decide (X.room< (m:Int)+1)=false:=decide_eq_false (by rw[hmm] at hf;omega);rw[ht] at hlk;clear hf hmm ht;go_enter func56,ntmps56
  go_wp2_with (go_at_call 95;(refine(HR.out.1 _ (Chg.refl _ _)).mono ?_);rintro e w1 ⟨rfl,W,hr1,hg1,hto⟩;obtain⟨c2,f2,s2'⟩:=(HB.out.grew hg1).facts;obtain⟨c3,f3,s3'⟩:=(HR.out.2.grew hg1).facts;have HT:=yH hto;clear hto hg1)
  go_ret
  exact⟨rfl,HT.out⟩
end
section
open Go.RowKit Go.Maps
theorem index_hit (l:List Nat) (v j:Nat) (A:Option Addr) (c:Nat) (w:World) (hs:Sl w 1 A l.length (nv l)) (hl:l.length≤1000000) (hj:l[j]? =some v) (h:∀ (k s:Nat),k< j→l[k]? =some s→s≠v) :
  Calls prog 55 #[.slice A l.length c,.int .i64 v] w fun e w'=>e= .returned (.int .i64 j)∧w=w':=by
 have H:=yH (yA3 hs h hj);have hjl:j< l.length:=(List.getElem?_eq_some_iff.1 hj).1;clear hs h hj;go_enter func55,ntmps55
 go_wp2
 go_loop [5,8] (fun x i=>∃k:Nat,k≤j∧i= .int .i64 k) (fun _ i=>l.length - (intOf i).toNat)
 case atStart=>exact⟨0,Nat.zero_le _,rfl⟩
 case round=>
  obtain⟨k,hk,rfl⟩:=hrel;have hlt:k< l.length:=by omega
  obtain⟨n,hnk⟩:∃n,l[k]? =some n:=⟨_,List.getElem?_eq_getElem hlt⟩;obtain⟨b,off,rfl,hblt,hx⟩:=H.out.1.2 (by omega);have hc:=hx k (.int .i64 n) (by simp[nv,hnk]);by_cases hkj:k< j
  ·have hne:=H.out.2.1 k n hkj hnk
   have a1:((v:Int)==(n:Int))=false:=by simp;omega
   clear hx hnk hne;go_wp2
   exact⟨⟨k+1,by omega,by simp⟩,by simp[intOf];omega⟩
  ·obtain rfl:k=j:=by omega
   obtain rfl:n=v:=by have:=H.out.2.2;rw[hnk] at this;injection this
   clear hx hnk;go_wp2
   go_ret
   exact⟨rfl,rfl⟩
theorem index_miss (l:List Nat) (v:Nat) (A:Option Addr) (c:Nat) (w:World) (hs:Sl w 1 A l.length (nv l)) (hl:l.length≤1000000) (h:∀s∈l,s≠v) :
  Calls prog 55 #[.slice A l.length c,.int .i64 v] w fun e w'=>e= .returned (.int .i64 (-1))∧w=w':=by
 have H:=yH (yA hs h);clear hs h;go_enter func55,ntmps55
 go_wp2
 go_loop [5,8] (fun x i=>∃k:Nat,k≤l.length∧i= .int .i64 k) (fun _ i=>l.length - (intOf i).toNat)
 case atStart=>exact⟨0,Nat.zero_le _,rfl⟩
 case round=>
  obtain⟨k,hk,rfl⟩:=hrel;by_cases hlt:k< l.length
  ·obtain⟨n,hnk⟩:∃n,l[k]? =some n:=⟨_,List.getElem?_eq_getElem hlt⟩
   obtain⟨b,off,rfl,hblt,hx⟩:=H.out.1.2 (by omega);have hc:=hx k (.int .i64 n) (by simp[nv,hnk]);have hne:=H.out.2 n (List.mem_of_getElem? hnk);have a1:((v:Int)==(n:Int))=false:=by simp;omega
   clear hx hnk hne;go_wp2
   exact⟨⟨k+1,by omega,by simp⟩,by simp[intOf];omega⟩
  ·obtain rfl:k=l.length:=by omega
   go_wp2
   go_ret
   exact⟨rfl,rfl⟩
section
variable {w w':World} {L L':Nat→Nat} {p d b ca c M1 s1 M2 s2:Nat} {X:Gp} {o o':Cg} {A:Option Addr} {vp vt vw vl:Value} {vo:Option Addr}
theorem nv_set (l:List Nat) (i s:Nat):nv (l.set i s)=(nv l).set i (.int .i64 s):=by simp[nv,List.map_set]
theorem GIn.tset (h:GIn w L p X d b A ca vp vt vo) {g ct:Nat} (hv:vt= .slice (some ⟨g,0,none⟩) X.table.length ct) (i s:Nat) :
  GIn (w.setCell ⟨g,i,none⟩ (.int .i64 s)) L p { X with table:=X.table.set i s } d b A ca vp vt vo∧Trn w (w.setCell ⟨g,i,none⟩ (.int .i64 s)) L L 5:=by
 have hg:L g=5:=h.lb g (by rw[hv];rfl);have hc:Chg (fun j=>L j=5) w (w.setCell ⟨g,i,none⟩ (.int .i64 s)):=(Chg.refl _ _).setCell (p:=⟨g,i,none⟩) (fun _=>hg) _;have ht:=Trn.keep hc h.lt (by omega)
 refine⟨⟨h.blk.chg ht.chg (by rw[h.lp];omega),h.lp,dsk_keep h.dsk ht (by omega),h.pol.chg ht.chg fun j hj e=>by have:=h.lo j hj;omega,h.lo,own_lab h.pgs h.lg ht.chg (by omega),h.lg,?_,h.lb,h.opn.keep ht (by omega),
  lab_lt h.lt ht,h.l0,tab_chg h.tab ht.chg (by rw[h.l0];omega)⟩,ht⟩
 subst hv;have:=own_word (j:=i) h.tbl (.int .i64 (s:Int));rw[←nv_set] at this;simpa using this
end
def Gp.alloc (X:Gp) (o:Cg) (i:Nat):Gp:= { X.touch o (i / X.row) with table:=X.table.set i 1 }
structure Gp.Sz (X:Gp):Prop where
 free:X.free.length=X.D.n
 row:X.row=X.D.sz / 2∧64≤X.D.sz
 tab:X.table.length≤X.pages.length*X.row∧X.table.length≤4096
 pgs:X.pages.length≤64
theorem Gp.Sz.k64 {X:Gp} (h:X.Sz) {i:Nat} (hi:i< X.table.length):i / X.row< 64:=by
 have h1:=h.row;have h2:=h.tab.1;have h3:=h.pgs;have h4:0< X.row:=by omega
 have:i< X.pages.length*X.row:=by omega
 have:=(Nat.div_lt_iff_lt_mul h4).2 this;omega
theorem galloc_none (p:Nat) (F:Nat→Prop) (X:Gp) (w:World) (h:GS w p F X) (hr:X.rdy=0) (hl:X.table.length≤4096) (hf:∀s∈X.table,s≠0) :
  Calls prog 20 #[.pointer (some ⟨p,0,none⟩)] w fun e' w'=>e'= .returned (.tuple #[.int .i64 0,.int .i64 21])∧w=w':=by
 have hrd:=gready_any p F X w h;rw[hr] at hrd;obtain⟨L,d,b,A,ca,vp,vt,vo,h,hF⟩:=h;obtain⟨c0,f0,s0⟩:=h.blk.facts;obtain⟨At,ct,rfl, -⟩:=own_shape h.tbl;have H:=yH (yA3 hrd (Sl.of_own h.tbl) hf);clear h hF hr hrd hf;go_enter func20,ntmps20
 go_wp2_with (first
  | (go_at_call 54;(refine H.out.1.mono ?_);rintro e w1 ⟨rfl,rfl⟩)
  | (go_at_call 55;(refine(index_miss X.table 0 At ct _ H.out.2.1 (by omega) H.out.2.2).mono ?_);rintro e w1 ⟨rfl,rfl⟩))
 go_ret2
 exact⟨rfl,rfl⟩
theorem galloc_full (p i:Nat) (F:Nat→Prop) (X:Gp) (o:Cg) (w:World) (h:GS w p F X) (hr:X.rdy=0) (hx:X.op=some o) (hz:X.Sz) (hn:X.D.n≤4096) (hi:X.table[i]? =some 0) (hf:∀ (k s:Nat),k< i→X.table[k]? =some s→s≠0) (hm:X.room< (o.more (i / X.row) 0:Nat)) :
  Calls prog 20 #[.pointer (some ⟨p,0,none⟩)] w fun e' w'=>e'= .returned (.tuple #[.int .i64 0,.int .i64 21])∧Grew w w':=by
 have hil:i< X.table.length:=(List.getElem?_eq_some_iff.1 hi).1;have hrd:=gready_any p F X w h;rw[hr] at hrd;have htf:=gtouch_full p i (i / X.row) 0 F X o w h hx (by have:=hz.free;omega) (by have:=hz.row;omega) rfl (by have:=hz.tab.2;omega) (by omega) hm;obtain⟨L,d,b,A,ca,vp,vt,vo,h,hF⟩:=h;obtain⟨c0,f0,s0⟩:=h.blk.facts;obtain⟨At,ct,rfl, -⟩:=own_shape h.tbl
 have ht4:=hz.tab.2;have H:=yH (yA3 hrd (index_hit X.table 0 i At ct w (Sl.of_own h.tbl) (by omega) hi hf) htf);clear h hF hr hrd hf hi htf hx hz hm;go_enter func20,ntmps20
 go_wp2_with (first
  | (go_at_call 54;(refine H.out.1.mono ?_);rintro e w1 ⟨rfl,rfl⟩)
  | (go_at_call 55;(refine H.out.2.1.mono ?_);rintro e w1 ⟨rfl,rfl⟩)
  | (go_at_call 56;(refine H.out.2.2.mono ?_);rintro e w1 ⟨rfl,hg1⟩;have HG1:=yH hg1;clear hg1))
 go_ret2
 exact⟨rfl,HG1.out⟩
theorem galloc_ok (p i:Nat) (F:Nat→Prop) (X:Gp) (o:Cg) (w:World) (h:GS w p F X) (hr:X.rdy=0) (hx:X.op=some o) (hz:X.Sz) (hn:X.D.n≤4096) (hi:X.table[i]? =some 0) (hf:∀ (k s:Nat),k< i→X.table[k]? =some s→s≠0) (hm:(o.more (i / X.row) 0:Nat)≤X.room) :
  Calls prog 20 #[.pointer (some ⟨p,0,none⟩)] w fun e' w'=>e'= .returned (.tuple #[.int .i64 i,.int .i64 0])∧GTo w w' p F (X.alloc o i):=by
 have hil:i< X.table.length:=(List.getElem?_eq_some_iff.1 hi).1;have hrd:=gready_any p F X w h;rw[hr] at hrd;have htf:=gtouch_ok p i (i / X.row) 0 F X o w h hx (by have:=hz.free;omega) (by have:=hz.row;omega) rfl (hz.k64 hil) (by have:=hz.tab.2;omega) (by omega) hm;obtain⟨L,d,b,A,ca,vp,vt,vo,h,hF⟩:=h;obtain⟨c0,f0,s0⟩:=h.blk.facts
 obtain⟨At,ct,rfl, -⟩:=own_shape h.tbl;have ht4:=hz.tab.2;have H:=yH (yA3 hrd (index_hit X.table 0 i At ct w (Sl.of_own h.tbl) (by omega) hi hf) htf);have HI:=yH hi;have u1:(0:Int)≤(i:Int):=by omega
 have u2:(i:Int)< (X.table.length:Int):=by omega
 clear h hF hr hrd hf hi htf hx hz hm;go_enter func20,ntmps20
 go_wp2_with (first
  | (go_at_call 54;(refine H.out.1.mono ?_);rintro e w1 ⟨rfl,rfl⟩)
  | (go_at_call 55;(refine H.out.2.1.mono ?_);rintro e w1 ⟨rfl,rfl⟩)
  | (go_at_call 56;(refine H.out.2.2.mono ?_);rintro e w1 ⟨rfl,F1,⟨L1,d1,b1,A1,ca1,vp1,vt1,vo1,hg,hF1⟩,hc1,hn1⟩;obtain⟨c9,f9,s9⟩:=hg.blk.facts;obtain⟨g,ct1,rfl,hgl,hlg,hce,hfe⟩:=hg.entry (i:=i) (s:=0) HI.out;have HT:=yH (yA4 hg hF1 hc1 hn1);clear hg hF1 hc1 hn1))
 go_ret2
 refine⟨rfl,?_⟩;have:=HT.out.1.tset rfl i 1;exact To.then HT.out.2.2.1 HT.out.2.2.2 (this.1.to this.2 (by omega) HT.out.2.1)
end
section
open Go.RowKit Go.Maps
structure TrnS (w w':World) (L L':Nat→Nat) (K:Nat→Prop):Prop where
 chg:Chg (fun j=>K (L j)) w w'
 same:∀j m,m≠0→¬K m→(L' j=m↔L j=m)
 new:∀j,K (L' j)→K (L j)∨w.heap.size≤j
 lt:∀j,K (L' j)→j< w'.heap.size
section
variable {w w' w2:World} {L L' L2:Nat→Nat} {p d b ca c M1 s1 M2 s2 k:Nat} {X:Gp} {o o':Cg} {A:Option Addr} {vp vt vw vl:Value} {vo:Option Addr} {K:Nat→Prop} {F:Nat→Prop}
theorem Trn.s (h:Trn w w' L L' k) (hl:∀j,L j≠0→j< w.heap.size) (hk:K k) (h0:¬K 0):TrnS w w' L L' K:=
 ⟨h.chg.mono fun i _ e=>by rw[e];exact hk,fun j m hm hK=>h.same j m hm fun e=>hK (e▸hk),fun j hj=>by
  by_cases e:L' j=k
  ·exact(h.new j e).imp (fun e1=>by rw[e1];exact hk) id
  ·exact .inl (by rw[(h.same j _ (fun e0=>h0 (e0▸hj)) e).1 rfl];exact hj),fun j hj=>by
  by_cases e:L' j=k
  ·exact h.lt j e
  ·have e1:=(h.same j _ (fun e0=>h0 (e0▸hj)) e).1 rfl
   exact Nat.lt_of_lt_of_le (hl j (fun e0=>h0 (e0▸e1.symm▸hj))) h.chg.size⟩
theorem TrnS.trans (h:TrnS w w' L L' K) (g:TrnS w' w2 L' L2 K):TrnS w w2 L L2 K:=
 ⟨Chg.trans h.chg g.chg fun i hi e=>(h.new i e).resolve_right (by omega),fun j m hm hK=>(g.same j m hm hK).trans (h.same j m hm hK),fun j hj=>(g.new j hj).elim (fun e=>h.new j e) fun e=> .inr (Nat.le_trans h.chg.size e),g.lt⟩
theorem labS_lt (hl:∀j,L j≠0→j< w.heap.size) (ht:TrnS w w' L L' K):∀j,L' j≠0→j< w'.heap.size:=fun j hj=>by
 by_cases e:K (L' j)
 ·exact ht.lt j e
 ·exact Nat.lt_of_lt_of_le (hl j (by have:=(ht.same j (L' j) hj e).1 rfl;omega)) ht.chg.size
theorem labS_zero (h0:L 0=0) (ht:TrnS w w' L L' K) (hk:¬K 0) (hs:0< w.heap.size):L' 0=0:=by
 by_cases e:K (L' 0)
 ·rcases ht.new 0 e with e1 | e1
  ·rw[h0] at e1;exact absurd e1 hk
  ·omega
 ·by_cases e0:L' 0=0
  ·exact e0
  ·have:=(ht.same 0 (L' 0) e0 e).1 rfl;omega
theorem GIn.opnS (h:GIn w L p X d b A ca vp vt vo) (ht:TrnS w w' L L' K) (hK:∀m,K m→6≤m) (ho:OpnIn w' L' vo (some o')):GIn w' L' p { X with op:=some o' } d b A ca vp vt vo:=by
 have h0:=tab_pos h.tab;have hk:∀m,m< 6→¬K m:=fun m hm e=>by have:=hK m e;omega
 have hset:∀m,m≠0→m< 6→(fun j=>L' j=m)=(fun j=>L j=m):=fun m h0 hm=>funext fun j=>propext (ht.same j m h0 (hk m hm));have own:∀ {base s n m:Nat} {e:TypeId} {v:Value} {xs:List Value},w.ownsRow base e s v n xs→(∀j,v.ownBlock=some j→L j=m)→m< 6→w'.ownsRow base e s v n xs:=fun h hl hm=>own_chg h ht.chg fun g hg e=>hk _ hm (hl g hg▸e)
 refine⟨h.blk.chg ht.chg (by rw[h.lp];exact hk 1 (by omega)),(ht.same p 1 (by omega) (hk 1 (by omega))).2 h.lp,?_,h.pol.chg ht.chg fun j hj e=>hk 3 (by omega) (h.lo j hj▸e),fun j hj=>(ht.same j 3 (by omega) (hk 3 (by omega))).2 (h.lo j hj),
  own h.pgs h.lg (by omega),fun j hj=>(ht.same j 4 (by omega) (hk 4 (by omega))).2 (h.lg j hj),own h.tbl h.lb (by omega),fun j hj=>(ht.same j 5 (by omega) (hk 5 (by omega))).2 (h.lb j hj),ho,
  labS_lt h.lt ht,labS_zero h.l0 ht (hk 0 (by omega)) h0,tab_chg h.tab ht.chg (by rw[h.l0];exact hk 0 (by omega))⟩
 rw[hset 2 (by omega) (by omega)];exact h.dsk.chg ht.chg fun j hj e=>hk 2 (by omega) (hj▸e)
theorem GIn.toS (h:GIn w' L' p X d b A ca vp vt vo) (ht:TrnS w w' L L' K) (hk:¬K 0) (hF:∀j,F j↔L j≠0):GTo w w' p F X:=
 ⟨fun j=>L' j≠0,h.gs,ht.chg.mono fun i _ e=>(hF i).2 (fun e0=>hk (e0▸e)),fun j hj=>by
  by_cases e:K (L' j)
  ·exact(ht.new j e).imp (fun e1=>(hF j).2 (fun e0=>hk (e0▸e1))) id
  ·exact .inl ((hF j).2 (by have:=(ht.same j (L' j) hj e).1 rfl;omega))⟩
theorem GIn.pool (h:GIn w L p X d b A ca vp vt vo) {x':List Bool} (hp:PIn w' b x' A ca) (hc:Chg (PF b A) w w'):GIn w' L p { X with free:=x' } d b A ca vp vt vo∧Trn w w' L L 3:=by
 have hc3:Chg (fun j=>L j=3) w w':=hc.mono fun i _ e=>h.lo i e;have ht:=Trn.keep hc3 h.lt (by omega)
 exact⟨⟨h.blk.chg ht.chg (by rw[h.lp];omega),h.lp,dsk_keep h.dsk ht (by omega),hp,h.lo,own_lab h.pgs h.lg ht.chg (by omega),h.lg,own_lab h.tbl h.lb ht.chg (by omega),h.lb,h.opn.keep ht (by omega),
  lab_lt h.lt ht,h.l0,tab_chg h.tab ht.chg (by rw[h.l0];omega)⟩,ht⟩
end
theorem gleave_none (p s:Nat) (w:World) (hs:s≤1) :
  Calls prog 60 #[.pointer (some ⟨p,0,none⟩),.int .i64 s] w fun e' w'=>e'= .returned (.tuple #[])∧w=w':=by
 have h2:s=0∨s=1:=by omega
 rcases h2 with rfl | rfl
 all_goals
  go_enter func60,ntmps60
  go_wp2
  refine bodyPost_end (results_none rfl _ _ _) rfl ?_;exact⟨rfl,rfl⟩
def Gp.give (X:Gp) (o:Cg) (s:Nat):Gp:= { X with free:=trn X.free s,op:=some { o with fresh:=setB o.fresh s false } }
def Gp.left (X:Gp) (o:Cg) (s:Nat):Gp:= { X with op:=some { o with left:=o.left++[s] } }
theorem gleave_fresh (p s:Nat) (F:Nat→Prop) (X:Gp) (o:Cg) (w:World) (h:GS w p F X) (hx:X.op=some o) (hl:X.free.length≤65536) (hs:2≤s) (hf:o.fresh s=true) (hsl:s< X.free.length) (hfr:X.free.getD s false=false) :
  Calls prog 60 #[.pointer (some ⟨p,0,none⟩),.int .i64 s] w fun e' w'=>e'= .returned (.tuple #[])∧GTo w w' p F (X.give o s):=by
 obtain⟨L,d,b,A,ca,vp,vt,vo,h,hF⟩:=h;obtain⟨c0,f0,s0⟩:=h.blk.facts;have ho:=h.opn;rw[hx] at ho;obtain⟨c,vw,M1,s1,vl,M2,s2,rfl,hi2⟩:=ho;obtain⟨c1,f1,s1'⟩:=hi2.blk.facts;have hlk:=hi2.fr.look (t:=103) kInt underlying3 underlying103 (zBool w) (i:=(s:Int)) (wfInt (by omega) (by omega));rw[mB_getD,hf] at hlk
 obtain⟨W,hr,hm,hc⟩:=hi2.fr.del (t:=103) kInt underlying3 underlying103 (i:=(s:Int)) (wfInt (by omega) (by omega)) 0;have hcl:Chg (fun j=>L j=8) w W:=hc.mono fun i _ e=>e▸hi2.lf;have ht:=Trn.keep hcl h.lt (by omega)
 have hG:GIn W L p { X with op:=some { o with fresh:=setB o.fresh s false } } d b A ca vp vt (some ⟨c,0,none⟩):=by
  refine h.opn_ (o':= { o with fresh:=setB o.fresh s false }) ht (by omega) ⟨c,vw,M1,_,vl,M2,s2,rfl,⟨hi2.blk.chg hcl (by rw[hi2.lc];omega),hi2.lc,own_lab hi2.was hi2.lw hcl (by omega),hi2.lw,by rw[mB_del] at hm;exact hm,hi2.lf,own_lab hi2.lft hi2.ll hcl (by omega),hi2.ll,hi2.tch.chg hcl (by rw[hi2.lt];omega),hi2.lt,⟨?_,fun j hj=>?_⟩,hi2.n2⟩⟩
  ·rw[mB_nat,hf]
   have:=cntN_drop o.fresh (hi2.n1.2 s hf) hf;have:=hi2.n1.1;simp
   omega
  ·by_cases e:j=s
   ·simp[setB,e] at hj
   ·exact hi2.n1.2 j (by simpa [setB,e] using hj)
 obtain⟨c2,f2,s2'⟩:=hG.blk.facts
 have htl:toL X.free (s:Int) true=(trn X.free s,0):=by
  unfold toL;rw[if_neg (by omega),Int.toNat_natCast,if_neg (by rw[hfr];decide)]
 have hgv:=pgive_any b s X.free A ca W hG.pol hl;rw[htl] at hgv;have e1:((s:Int)==0)=false:=by simp;omega
 have e2:((s:Int)==1)=false:=by simp;omega
 have H:=yH (yA5 hgv hG ht h.lt hF);clear h hF hx hf hfr hi2 hm hc hcl ht hG htl hgv;go_enter func60,ntmps60
 go_wp2_with (go_at_call 67;(refine H.out.1.mono ?_);rintro e w2 ⟨rfl,h2,h3⟩;have H2:=yH (yA h2 h3);clear h2 h3)
 refine bodyPost_end (results_none rfl _ _ _) rfl ⟨rfl,?_⟩;have hp:=H.out.2.1.pool H2.out.1 H2.out.2;exact hp.1.toS (K:=fun m=>m=8∨m=3) ((H.out.2.2.1.s H.out.2.2.2.1 (.inl rfl) (by omega)).trans (hp.2.s H.out.2.1.lt (.inr rfl) (by omega))) (by omega) (yP4 H.out)
section
variable {w w1:World} {L:Nat→Nat} {p d b ca c M1 s1 M2 s2 s:Nat} {X:Gp} {o:Cg} {A:Option Addr} {vp vt vw vl vl':Value} {F:Nat→Prop}
theorem GIn.lpush (h:GIn w L p X d b A ca vp vt (some ⟨c,0,none⟩)) (hi:ChIn w L o c vw M1 s1 vl M2 s2) (ha:Ap w w1 vl vl') (ho:w1.ownsRow 0 3 1 vl' (o.left.length+1) (nv o.left++[.int .i64 s])) (hF:∀j,F j↔L j≠0) :
  GTo w (w1.setCell ⟨c,2,none⟩ vl') p F (X.left o s):=by
 have hcl:Chg (fun j=>L j=9) w w1:=ha.chg.mono fun i _ e=>hi.ll i e;obtain⟨L',ht,hiff⟩:=Trn.more hcl h.lt (by omega) (F':=fun j=>vl'.ownBlock=some j) (fun j hj=>(ha.at_ j hj).imp (hi.ll j) id) (fun j hj=>(ho.lt j hj).2);have hlc:L' c=6:=(ht.same c 6 (by omega) (by omega)).2 hi.lc
 have hc2:Chg (fun j=>L' j=6) w1 (w1.setCell ⟨c,2,none⟩ vl'):=(Chg.refl _ _).setCell (p:=⟨c,2,none⟩) (fun _=>hlc) _;have ht2:=Trn.keep hc2 (lab_lt h.lt ht) (by omega);have hs:=(ht.s (K:=fun m=>m=9∨m=6) h.lt (.inl rfl) (by omega)).trans (ht2.s (K:=fun m=>m=9∨m=6) (lab_lt h.lt ht) (.inr rfl) (by omega))
 refine(h.opnS (o':= { o with left:=o.left++[s] }) hs (by omega) ⟨c,vw,M1,s1,vl',M2,s2,rfl,⟨?_,hlc,own_lab (own_lab hi.was hi.lw hcl (by omega)) (fun j hj=>(ht.same j 7 (by omega) (by omega)).2 (hi.lw j hj)) hc2 (by omega),fun j hj=>(ht.same j 7 (by omega) (by omega)).2 (hi.lw j hj),
  (hi.fr.chg hcl (by rw[hi.lf];omega)).chg hc2 (by rw[(ht.same M1 8 (by omega) (by omega)).2 hi.lf];omega),(ht.same M1 8 (by omega) (by omega)).2 hi.lf,?_,fun j hj=>(hiff j).2 hj,
  (hi.tch.chg hcl (by rw[hi.lt];omega)).chg hc2 (by rw[(ht.same M2 10 (by omega) (by omega)).2 hi.lt];omega),(ht.same M2 10 (by omega) (by omega)).2 hi.lt,hi.n1,hi.n2⟩⟩).toS hs (by omega) hF
 ·have:=(hi.blk.chg hcl (by rw[hi.lc];omega)).put 2 vl'
  simpa using this
 ·have e:(o.left++[s]).length=o.left.length+1:=by simp
  rw[e];have:=own_lab ho (fun j hj=>(hiff j).2 hj) hc2 (by omega);simpa [nv] using this
end
theorem gleave_old (p s:Nat) (F:Nat→Prop) (X:Gp) (o:Cg) (w:World) (h:GS w p F X) (hx:X.op=some o) (hs:2≤s) (hs4:s< 4096) (hf:o.fresh s=false) (hll:o.left.length≤100000) :
  Calls prog 60 #[.pointer (some ⟨p,0,none⟩),.int .i64 s] w fun e' w'=>e'= .returned (.tuple #[])∧GTo w w' p F (X.left o s):=by
 obtain⟨L,d,b,A,ca,vp,vt,vo,h,hF⟩:=h;obtain⟨c0,f0,s0⟩:=h.blk.facts;have ho:=h.opn;rw[hx] at ho;obtain⟨c,vw,M1,s1,vl,M2,s2,rfl,hi2⟩:=ho;obtain⟨c1,f1,s1'⟩:=hi2.blk.facts;have hlk:=hi2.fr.look (t:=103) kInt underlying3 underlying103 (zBool w) (i:=(s:Int)) (wfInt (by omega) (by omega));rw[mB_getD,hf] at hlk
 have e1:((s:Int)==0)=false:=by simp;omega
 have e2:((s:Int)==1)=false:=by simp;omega
 have H:=yH (yA3 h hi2 hF);have hpc:w.drew.cell? ⟨p,6,none⟩=some (.pointer (some ⟨c,0,none⟩)):=(h.blk.drew).cell 6;have hcc:w.drew.cell? ⟨c,2,none⟩=some vl:=(hi2.blk.drew).cell 2;clear h hF hx hf hi2;go_enter func60,ntmps60
 go_wp2
 clear c0 f0 c1 f1;refine wp_region_x [16] (S:=fun w'=>w'.cell? ⟨p,6,none⟩=some (.pointer (some ⟨c,0,none⟩))∧w'.cell? ⟨c,2,none⟩=some vl) (by kernel_rfl) ⟨hpc,hcc⟩ (fun hHeld=>?_);refine Todo.out (is:=[0,1,2,3,4,5,6,7,8,9,10,11]) ?_
 repeat
  refine tkX (v:=?_) rfl (Or.inl ⟨by rfl,?_⟩) hHeld ?_;rotate_left
  ·(intro w hSw;(try dsimp only at hSw);go_simp)<;>with_reducible rfl
  (try simp only[Act.put,lZ])
 refine Todo.fin ?_;refine rdX (i:=12) (by kernel_rfl) rfl fun K hK=>?_;go_simp;have hHeld2:(w.drew.alloc (.cells #[.int .i64 s] 3)).cell? ⟨p,6,none⟩=some (.pointer (some ⟨c,0,none⟩))∧(w.drew.alloc (.cells #[.int .i64 s] 3)).cell? ⟨c,2,none⟩=some vl:=⟨((H.out.1.blk.drew).alloc _).cell 6,((H.out.2.1.blk.drew).alloc _).cell 2⟩;refine hK.out _ _ (fun _=>hHeld2) ?_;clear hK K
 (try simp only[Act.put,lZ])
 refine rdX (i:=13) (by kernel_rfl) rfl fun K hK=>?_;refine step_app_int (by rfl) (.tmp 14) (.tmp 16) (by rfl) 0 vl o.left.length (nv o.left) (by rfl) (own_grew H.out.2.1.lft ((Chg.refl _ _).drew)) s (by rfl) (by omega) (Nat.zero_le _) ?_;intro vl' w1 ho1 ha1;obtain⟨Al,cl,rfl, -⟩:=own_shape ho1
 have hB1:=(H.out.1.blk.drew).chg ha1.chg (fun e=>by have:=H.out.2.1.ll p e;have:=H.out.1.lp;omega);have hB2:=(H.out.2.1.blk.drew).chg ha1.chg (fun e=>by have:=H.out.2.1.ll c e;have:=H.out.2.1.lc;omega);have hHeld3:w1.cell? ⟨p,6,none⟩=some (.pointer (some ⟨c,0,none⟩))∧w1.cell? ⟨c,2,none⟩=some vl:=⟨hB1.cell 6,hB2.cell 2⟩;have fc:=hB2.frozen 2
 have sc:=hB2.lt;have HA:=yH (yA ho1 ha1);clear ho1 ha1 hB1 hB2;refine hK.out _ _ (fun _=>hHeld3) ?_;clear hK K;(try simp only[Act.put,lZ])
 refine rdX (i:=14) (by kernel_rfl) rfl fun K hK=>?_;go_simp;refine hK.out _ _ (fun _=>hHeld3) ?_;clear hK K;(try simp only[Act.put,lZ])
 refine tkX1 (i:=15) (v:=?_) rfl (Or.inl ⟨by rfl,?_⟩) hHeld3 ?_;rotate_left
 ·(intro w hSw;(try dsimp only at hSw);go_simp)<;>with_reducible rfl
 (try simp only[Act.put,lZ])
 refine rdX (i:=16) (by kernel_rfl) rfl fun K hK=>?_;go_simp;refine hK.out _ _ (fun h=>by cases h) ?_;clear hK K;(try simp only[Act.put,lZ])
 refine wpAnyX_done (by kernel_rfl) ?_ _;go_wp2
 refine bodyPost_end (results_none rfl _ _ _) rfl ⟨rfl,?_⟩;exact H.out.1.lpush H.out.2.1 ⟨Grew.then ((Chg.refl NoF w).drew) HA.out.2.chg,HA.out.2.at_⟩ HA.out.1 H.out.2.2
end
section
open Go.RowKit Go.Maps
def Gp.leave (X:Gp) (o:Cg) (s:Nat):Gp:=if s≤1 then X else if o.fresh s then X.give o s else X.left o s
def Gp.canLeave (X:Gp) (o:Cg) (s:Nat):Prop:=2≤s→s< X.free.length∧(o.fresh s=true→X.free.getD s false=false)
theorem gleave_any (p s:Nat) (F:Nat→Prop) (X:Gp) (o:Cg) (w:World) (h:GS w p F X) (hx:X.op=some o) (hl:X.free.length≤4096) (hs:X.canLeave o s) (hll:o.left.length≤100000) :
  Calls prog 60 #[.pointer (some ⟨p,0,none⟩),.int .i64 s] w fun e' w'=>e'= .returned (.tuple #[])∧GTo w w' p F (X.leave o s):=by
 unfold Gp.leave;by_cases h1:s≤1
 ·rw[if_pos h1]
  refine(gleave_none p s w h1).mono ?_;rintro e w1 ⟨rfl,rfl⟩;exact⟨rfl,h.to (Chg.refl _ _)⟩
 ·rw[if_neg h1]
  have hc:=hs (by omega)
  cases hf:o.fresh s with
  | true=>exact gleave_fresh p s F X o w h hx (by omega) (by omega) hf hc.1 (hc.2 hf)
  | false=>exact gleave_old p s F X o w h hx (by omega) (by omega) hf hll
theorem Gp.leave_op (X:Gp) (o:Cg) (s:Nat) (hx:X.op=some o):∃o',(X.leave o s).op=some o'∧(X.leave o s).table=X.table∧(X.leave o s).D=X.D∧o'.touched=o.touched:=by
 unfold Gp.leave;split
 ·exact⟨o,hx,rfl,rfl,rfl⟩
 ·split
  ·exact⟨_,rfl,rfl,rfl,rfl⟩
  ·exact⟨_,rfl,rfl,rfl,rfl⟩
def Cg.tch (o:Cg) (k:Nat):Cg:= { o with touched:=setB o.touched k true }
def Gp.drop (X:Gp) (o:Cg) (i s:Nat):Gp:= { (X.touch o (i / X.row)).leave (o.tch (i / X.row)) s with table:=X.table.set i 0 }
theorem gused_any (p:Nat) (i:Int) (F:Nat→Prop) (X:Gp) (w:World) (h:GS w p F X) (hl:X.table.length≤1000000) :
  Calls prog 57 #[.pointer (some ⟨p,0,none⟩),.int .i64 i] w fun e w'=>e= .returned (.bool (X.usedB i))∧w=w':=by
 by_cases h0:i< 0∨X.table.length≤i
 ·have:=gused_no p i F X w h hl h0
  have e:X.usedB i=false:=by
   unfold Gp.usedB;rcases h0 with h0 | h0
   ·rw[decide_eq_false (by omega)];rfl
   ·rw[List.getD_eq_getElem?_getD,List.getElem?_eq_none (by omega)];simp
  rwa[e]
 ·obtain⟨k,rfl⟩:=Int.eq_ofNat_of_zero_le (show 0≤i by omega)
  obtain⟨s,hs⟩:∃s,X.table[k]? =some s:=⟨_,List.getElem?_eq_getElem (by omega)⟩;have:=gused_in p k s F X w h hl hs
  have e:X.usedB (k:Int)=(s !=0):=by
   unfold Gp.usedB;rw[decide_eq_true (by omega),Int.toNat_natCast,List.getD_eq_getElem?_getD,hs];rfl
  rwa[e]
end
section
open Go.RowKit Go.Maps
section
variable {w w':World} {L:Nat→Nat} {p d b ca:Nat} {X:Gp} {D':Dk} {A:Option Addr} {vp vt:Value} {vo:Option Addr}
theorem GIn.disk (h:GIn w L p X d b A ca vp vt vo) (hd:DTo w w' d (fun j=>L j=2) D'):∃L',GIn w' L' p { X with D:=D' } d b A ca vp vt vo∧Trn w w' L L' 2:=by
 obtain⟨F',h1,h2,h3⟩:=hd;obtain⟨L',ht,hiff⟩:=Trn.more h2 h.lt (by omega) h3 h1.lt;have h0:=tab_pos h.tab
 refine⟨L',⟨h.blk.chg ht.chg (by rw[h.lp];omega),(ht.same p 1 (by omega) (by omega)).2 h.lp,?_,h.pol.chg ht.chg fun j hj e=>by have:=h.lo j hj;omega,fun j hj=>(ht.same j 3 (by omega) (by omega)).2 (h.lo j hj),
  own_lab h.pgs h.lg ht.chg (by omega),fun j hj=>(ht.same j 4 (by omega) (by omega)).2 (h.lg j hj),own_lab h.tbl h.lb ht.chg (by omega),fun j hj=>(ht.same j 5 (by omega) (by omega)).2 (h.lb j hj),h.opn.keep ht (by omega),
  lab_lt h.lt ht,lab_zero h.l0 ht (by omega) h0,tab_chg h.tab ht.chg (by rw[h.l0];omega)⟩,ht⟩
 rw[show(fun j=>L' j=2)=F' from funext fun j=>propext (hiff j)];exact h1
theorem GIn.flag (h:GIn w L p X d b A ca vp vt vo) (dn:Bool):GIn (w.setCell ⟨p,7,none⟩ (.bool dn)) L p { X with down:=dn } d b A ca vp vt vo∧Trn w (w.setCell ⟨p,7,none⟩ (.bool dn)) L L 1:=by
 have hc:Chg (fun j=>L j=1) w (w.setCell ⟨p,7,none⟩ (.bool dn)):=(Chg.refl _ _).setCell (p:=⟨p,7,none⟩) (fun _=>h.lp) _;have ht:=Trn.keep hc h.lt (by omega);have hb:=h.blk.put 7 (.bool dn);exact⟨h.re (X':= { X with down:=dn }) ht h.lp ⟨rfl,rfl,rfl,rfl⟩ (by simpa using hb) (h.opn.keep ht (by omega)),ht⟩
end
theorem gnote_at (p:Nat) (e:Int) (cs:Array Value) (w:World) (h:Blk w p 101 cs) (h7:cs[7]? =some (.bool false)) (he:(e==20)=false) :
  Calls prog 61 #[.pointer (some ⟨p,0,none⟩),.int .i64 e] w fun e' w'=>e'= .returned (.int .i64 e)∧w.setCell ⟨p,7,none⟩ (.bool false)=w':=by
 have c7:=(h.cell 7).trans h7;have f7:=h.frozen 7;have s0:=h.lt;clear h h7;go_enter func61,ntmps61
 go_wp2
 go_ret
 exact⟨rfl,rfl⟩
def Gp.put (X:Gp) (s:Nat) (bs:List Int):Gp:= { X with D:=X.D.wr s bs }
theorem gwrite_fresh (p i s:Nat) (bs:List Int) (Ab:Option Addr) (cb:Nat) (F:Nat→Prop) (X:Gp) (o:Cg) (w:World) (h:GS w p F X) (hr:X.rdy=0) (hx:X.op=some o) (hz:X.Sz) (hi:X.table[i]? =some s) (hs:s≠0) (hf:o.fresh s=true) (hsn:s< X.D.n)
  (hd:X.D.down=false) (ha:X.D.armed=false) (hdn:X.down=false) (hb:bs.length=X.D.sz) (hA:Ab≠none) (hsl:Sl w 1 Ab bs.length (bv bs)) (hsF:∀a,Ab=some a→¬F a.block) :
  Calls prog 21 #[.pointer (some ⟨p,0,none⟩),.int .i64 i,.slice Ab bs.length cb] w fun e' w'=>e'= .returned (.int .i64 0)∧GTo w w' p F (X.put s bs):=by
 have hrd:=gready_any p F X w h;rw[hr] at hrd;have hus:=gused_in p i s F X w h (by have:=hz.tab.2;omega) hi;rw[show(s !=0)=true from by simpa using hs] at hus
 have hsz:=gsize_any p F X w h;obtain⟨L,d,b,A,ca,vp,vt,vo,h,hF⟩:=h;obtain⟨c0,f0,s0⟩:=h.blk.facts;have ho:=h.opn;rw[hx] at ho;obtain⟨c,vw,M1,s1,vl,M2,s2,rfl,hi2⟩:=ho;obtain⟨g,ct,rfl,hgl,hlg,hce,hfe⟩:=h.entry hi;have hil:i< X.table.length:=(List.getElem?_eq_some_iff.1 hi).1;have hdz:=h.dsk.sml;have u1:(0:Int)≤(i:Int):=by omega
 have u2:(i:Int)< (X.table.length:Int):=by omega
 have hlk:∀u,Grew w u→(Instr.lookup 103 (.map (some M1)) (.int .i64 s) false).run prog u= .ok (.bool true) u:=fun u hg=>by
  have:=(hi2.fr.grew hg).look (t:=103) kInt underlying3 underlying103 (zBool u) (i:=(s:Int)) (wfInt (by omega) (by omega));rwa[mB_getD,hf] at this
 have hp0:w.drew.cell? ⟨p,0,none⟩=some (.pointer (some ⟨d,0,none⟩)):=(h.blk.drew).cell 0;have hp4:w.drew.cell? ⟨p,4,none⟩=some (.slice (some ⟨g,0,none⟩) X.table.length ct):=(h.blk.drew).cell 4;have hp6:w.drew.cell? ⟨p,6,none⟩=some (.pointer (some ⟨c,0,none⟩)):=(h.blk.drew).cell 6;have hc1:w.drew.cell? ⟨c,1,none⟩=some (.map (some M1)):=(hi2.blk.drew).cell 1
 have hgi:w.drew.cell? ⟨g,i,none⟩=some (.int .i64 s):=hce;have hlk1:=hlk w.drew ((Chg.refl _ _).drew)
 have hdw:∀u,Grew w u→Calls prog 62 #[.pointer (some ⟨d,0,none⟩),.int .i64 (s:Int),.slice Ab bs.length cb] u fun e' w'=>e'= .returned (.int .i64 0)∧DTo u w' d (fun j=>L j=2) (X.D.wr s bs):=fun u hg=>
  dwrite_ok d s bs Ab hA cb _ X.D u (h.dsk.grew hg) hd ha (by omega) (by omega) hb (hsl.grew hg)
 have Hb:=yH hb;have HI:=yH hi;have e3:((bs.length:Int) !=(X.D.sz:Int))=false:=by simp[hb]
 have H:=yH (yA5 hrd hus hsz hdw (yA3 h hF hdn));clear h hr hrd hus hsz hx hz hi hs hf hi2 hlk hdw hb hd ha hF c0 f0 hdn hce;go_enter func21,ntmps21
 go_wp2_with (first
  | (go_at_call 54;(refine H.out.1.mono ?_);rintro e w1 ⟨rfl,rfl⟩)
  | (go_at_call 57;(refine H.out.2.1.mono ?_);rintro e w1 ⟨rfl,rfl⟩)
  | (go_at_call 58;(refine H.out.2.2.1.mono ?_);rintro e w1 ⟨rfl,rfl⟩))
 refine wp_region_held_drew (S:=fun w'=>w'.cell? ⟨p,4,none⟩=some (.slice (some ⟨g,0,none⟩) X.table.length ct)∧w'.cell? ⟨p,6,none⟩=some (.pointer (some ⟨c,0,none⟩))∧w'.cell? ⟨c,1,none⟩=some (.map (some M1))∧w'.cell? ⟨g,i,none⟩=some (.int .i64 s)∧(Instr.lookup 103 (.map (some M1)) (.int .i64 s) false).run prog w'= .ok (.bool true) w') (by kernel_rfl) ⟨hp4,hp6,hc1,hgi,hlk1⟩ (fun hHeld=>?_)
 refine Todo.out (is:=[0,1,2,3,4,5,6,7,8,9,10,11,12,13,14]) ?_
 repeat
  refine tkH (v:=?_) rfl (Or.inl ⟨by rfl,?_⟩) hHeld ?_;rotate_left
  ·(intro w hSw;(try dsimp only at hSw);go_simp)<;>with_reducible rfl
  (try simp only[Act.put,lZ])
 refine Todo.fin ?_;refine rdH (i:=15) (by kernel_rfl) rfl fun K hK=>?_;go_simp;refine hK.out _ _ hHeld (fun _=>?_);clear hK K;(try simp only[Act.put,lZ])
 refine wpAnyH_done (by kernel_rfl) ?_ _;clear hHeld;go_wp2
 refine wp_region_held_drew (S:=fun w'=>w'.cell? ⟨p,0,none⟩=some (.pointer (some ⟨d,0,none⟩))∧w'.cell? ⟨p,4,none⟩=some (.slice (some ⟨g,0,none⟩) X.table.length ct)∧w'.cell? ⟨g,i,none⟩=some (.int .i64 s)) (by kernel_rfl) ⟨hp0,hp4,hgi⟩ (fun hHeld=>?_);refine Todo.out (is:=[0,1,2,3,4,5,6,7,8,9,10,11,12]) ?_
 repeat
  refine tkH (v:=?_) rfl (Or.inl ⟨by rfl,?_⟩) hHeld ?_;rotate_left
  ·(intro w hSw;(try dsimp only at hSw);go_simp)<;>with_reducible rfl
  (try simp only[Act.put,lZ])
 refine Todo.fin ?_;refine rdH (i:=13) (by kernel_rfl) rfl fun K hK=>?_;go_simp;refine(H.out.2.2.2.1 _ (((Chg.refl _ _).drew).drew)).mono ?_;rintro e w3 ⟨rfl,h3⟩;obtain⟨L3,hG3,ht3⟩:=((yP4 H.out).1.grew (((Chg.refl _ _).drew).drew)).disk h3;obtain⟨g3,ct3,e3',hgl3,hlg3,hce3,hfe3⟩:=hG3.entry (i:=i) (s:=s) HI.out
 cases e3'
 have hb3:=hG3.blk;have hpg:p≠g:=fun e=>by have:=hG3.lp;rw[e] at this;omega
 have hHeld3:w3.cell? ⟨p,0,none⟩=some (.pointer (some ⟨d,0,none⟩))∧w3.cell? ⟨p,4,none⟩=some (.slice (some ⟨g,0,none⟩) X.table.length ct)∧w3.cell? ⟨g,i,none⟩=some (.int .i64 s):=⟨hb3.cell 0,hb3.cell 4,hce3⟩;have HG:=yH (yA3 hG3 ht3 hce3);clear hb3 hG3 ht3 h3 hgl3 hlg3 hce3 hfe3;refine hK.out _ _ hHeld3 (fun _=>?_);clear hK K;(try simp only[Act.put,lZ])
 refine rdH (i:=14) (by kernel_rfl) rfl fun K hK=>?_;go_simp;refine(gnote_at p 0 _ _ HG.out.1.blk (by show _=some (Value.bool false);rw[← (yP6 H.out)];rfl) rfl).mono ?_;rintro e w4 ⟨rfl,hw4⟩
 have hHeld4:w4.cell? ⟨p,0,none⟩=some (.pointer (some ⟨d,0,none⟩))∧w4.cell? ⟨p,4,none⟩=some (.slice (some ⟨g,0,none⟩) X.table.length ct)∧w4.cell? ⟨g,i,none⟩=some (.int .i64 s):=by
  subst hw4;exact⟨(HG.out.1.blk.put 7 (.bool false)).cell 0,(HG.out.1.blk.put 7 (.bool false)).cell 4,by rw[World.cell?_setCell_far _ _ _ _ hpg];exact HG.out.2.2⟩
 have HW4:=yH hw4;clear hw4;refine hK.out _ _ hHeld4 (fun _=>?_);clear hK K;(try simp only[Act.put,lZ])
 refine rdH (i:=15) (by kernel_rfl) rfl fun K hK=>?_;go_simp;refine hK.out _ _ hHeld4 (fun _=>?_);clear hK K;(try simp only[Act.put,lZ])
 refine wpAnyH_done (by kernel_rfl) ?_ _;clear hHeld hHeld3 hHeld4;go_wp2
 go_ret
 refine⟨rfl,?_⟩;have hfl:=HG.out.1.flag false;rw[HW4.out] at hfl;refine To.ahead (w':=w.drew.drew) (((Chg.refl _ _).drew).drew) ?_;have hgo:=hfl.1.toS (K:=fun m=>m=2∨m=1) ((HG.out.2.1.s (yP4 H.out).1.lt (.inl rfl) (by omega)).trans (hfl.2.s HG.out.1.lt (.inr rfl) (by omega))) (by omega) (yP4 H.out).2.1
 have e:({ X.put s bs with down:=false }:Gp)=X.put s bs:=by unfold Gp.put;rw[← (yP6 H.out)]
 rw[←e];exact hgo
end
section
open Go.RowKit Go.Maps
open Go.ChangeMaps (setBlock)
theorem setBlock_turns (w:World) (b:Nat) (o:Obj):Chg (fun j=>j=b) w (setBlock w b o):=
 ⟨rfl,rfl,rfl,by simp[setBlock],fun k hk hne=>by simp[setBlock,Array.getElem?_setIfInBounds,Ne.symm hne]⟩
section
variable {w w':World} {L:Nat→Nat} {p d b ca c M1 s1 M2 s2 j:Nat} {X:Gp} {o:Cg} {A:Option Addr} {vp vt vw vl:Value}
theorem GIn.frput (h:GIn w L p X d b A ca vp vt (some ⟨c,0,none⟩)) (hi:ChIn w L o c vw M1 s1 vl M2 s2) (hj:j< 4096) (hf:o.fresh j=false) :
  ∃ (v0:Value) (st:Nat) (o1 o2:Obj),(Instr.mapEntry 103 (.map (some M1)) (.int .i64 j)).run prog w= .ok (.tuple #[v0,goInt st]) (setBlock w M1 o1)∧
   (Instr.entryStore 103 (.map (some M1)) (goInt st) (.bool true)).run prog (setBlock w M1 o1)= .ok () (setBlock (setBlock w M1 o1) M1 o2)∧
   GIn (setBlock (setBlock w M1 o1) M1 o2) L p { X with op:=some { o with fresh:=setB o.fresh j true } } d b A ca vp vt (some ⟨c,0,none⟩)∧Trn w (setBlock (setBlock w M1 o1) M1 o2) L L 8:=by
 have hs1:s1< maxLen:=by have:=hi.n1.1;have:=cntN_le o.fresh 4096;simp only[maxLen];omega
 obtain⟨v0,st,o1,hr1,hr2⟩:=hi.fr.entry kInt underlying3 underlying103 hs1 zBool (i:=(j:Int)) (wfInt (by omega) (by omega));obtain⟨o2,hr3,hm⟩:=hr2 (setBlock w M1 o1) (.bool true) (by have:=hi.fr.lt;simp[setBlock,this])
 have hc:Chg (fun j=>L j=8) w (setBlock (setBlock w M1 o1) M1 o2):=(Chg.trans (setBlock_turns w M1 o1) (setBlock_turns _ M1 o2) fun _ _ e=>e).mono fun i _ e=>e▸hi.lf;have ht:=Trn.keep hc h.lt (by omega)
 refine⟨v0,st,o1,o2,hr1,hr3,h.opn_ (o':= { o with fresh:=setB o.fresh j true }) ht (by omega) ⟨c,vw,M1,_,vl,M2,s2,rfl,⟨hi.blk.chg hc (by rw[hi.lc];omega),hi.lc,own_lab hi.was hi.lw hc (by omega),hi.lw,by rw[mB_put] at hm;exact hm,hi.lf,own_lab hi.lft hi.ll hc (by omega),hi.ll,hi.tch.chg hc (by rw[hi.lt];omega),hi.lt,⟨?_,fun k hk=>?_⟩,hi.n2⟩⟩,ht⟩
 ·rw[mB_nat,hf]
  have:=cntN_yes o.fresh hj hf;simp[this,hi.n1.1]
 ·by_cases e:k=j
  ·omega
  ·exact hi.n1.2 k (by simpa [setB,e] using hk)
end
structure Rch (F F':Nat→Prop) (w w':World):Prop where
 chg:Chg F w w'
 new:∀j,F' j→F j∨w.heap.size≤j
theorem Rch.trans {F F1 F2:Nat→Prop} {w w1 w2:World} (h:Rch F F1 w w1) (k:Rch F1 F2 w1 w2):Rch F F2 w w2:=
 ⟨Chg.trans h.chg k.chg fun i hi hf=>(h.new i hf).resolve_right (by omega),fun j hj=>(k.new j hj).elim (h.new j) fun e=> .inr (Nat.le_trans h.chg.size e)⟩
theorem Rch.grew {F:Nat→Prop} {w w':World} (h:Grew w w'):Rch F F w w':=⟨h.chg,fun _ e=> .inl e⟩
theorem TrnS.rch {w w':World} {L L':Nat→Nat} {K F:Nat→Prop} (ht:TrnS w w' L L' K) (hk:¬K 0) (hF:∀j,F j↔L j≠0):Rch F (fun j=>L' j≠0) w w':=
 ⟨ht.chg.mono fun i _ e=>(hF i).2 (fun e0=>hk (e0▸e)),fun j hj=>by
  by_cases e:K (L' j)
  ·exact(ht.new j e).imp (fun e1=>(hF j).2 (fun e0=>hk (e0▸e1))) id
  ·exact .inl ((hF j).2 (by have:=(ht.same j (L' j) hj e).1 rfl;omega))⟩
def Cg.fill (o:Cg) (k s j:Nat):Cg:= { was:=o.was,fresh:=setB o.fresh j true,left:=if s≤1 then o.left else o.left++[s],touched:=setB o.touched k true }
def Gp.fill (X:Gp) (o:Cg) (i s j:Nat) (bs:List Int):Gp:= { X with D:=X.D.wr j bs,table:=X.table.set i j,free:=trn X.free j,op:=some (o.fill (i / X.row) s j) }
def Cg.lft (o:Cg) (k s:Nat):Cg:= { o with touched:=setB o.touched k true,left:=if s≤1 then o.left else o.left++[s] }
theorem leave_lft (p s k j:Nat) (F:Nat→Prop) (X:Gp) (o:Cg) (w:World) (h:GS w p F { X.touch o k with free:=trn X.free j }) (hl:X.free.length≤4096) (hs:s≤1∨s< X.free.length) (hf:o.fresh s=false) (hll:o.left.length≤100000) :
  Calls prog 60 #[.pointer (some ⟨p,0,none⟩),.int .i64 s] w fun e' w'=>e'= .returned (.tuple #[])∧GTo w w' p F { X with free:=trn X.free j,op:=some (o.lft k s) }:=by
 have:=gleave_any p s F { X.touch o k with free:=trn X.free j } (o.tch k) w h rfl (by simp only[trn,List.length_set];exact hl) (fun h2=>⟨by simp only[trn,List.length_set];omega,fun e=>by rw[show(o.tch k).fresh s=o.fresh s from rfl,hf] at e;cases e⟩) hll
 have e:({ X.touch o k with free:=trn X.free j }:Gp).leave (o.tch k) s= { X with free:=trn X.free j,op:=some (o.lft k s) }:=by
  unfold Gp.leave Cg.lft Cg.tch;by_cases h1:s≤1
  ·rw[if_pos h1,if_pos h1];rfl
  ·rw[if_neg h1,if_neg h1]
   simp only[hf];rfl
 rwa[e] at this
theorem gwrite_new (p i s j:Nat) (bs:List Int) (Ab:Option Addr) (cb:Nat) (F:Nat→Prop) (X:Gp) (o:Cg) (w:World) (h:GS w p F X) (hr:X.rdy=0) (hx:X.op=some o) (hz:X.Sz) (hi:X.table[i]? =some s) (hs:s≠0) (hf:o.fresh s=false) (hsn:s≤1∨s< X.D.n)
  (hj:nxt X.free 0=some j) (hfj:o.fresh j=false) (hll:o.left.length≤100000) (hm:(o.more (i / X.row) 1:Nat)≤X.room)
  (hd:X.D.down=false) (ha:X.D.armed=false) (hdn:X.down=false) (hb:bs.length=X.D.sz) (hA:Ab≠none) (hsl:Sl w 1 Ab bs.length (bv bs)) (hsF:∀a,Ab=some a→¬F a.block) :
  Calls prog 21 #[.pointer (some ⟨p,0,none⟩),.int .i64 i,.slice Ab bs.length cb] w fun e' w'=>e'= .returned (.int .i64 0)∧GTo w w' p F (X.fill o i s j bs):=by
 have hrd:=gready_any p F X w h;rw[hr] at hrd;have hus:=gused_in p i s F X w h (by have:=hz.tab.2;omega) hi;rw[show(s !=0)=true from by simpa using hs] at hus
 have hsz:=gsize_any p F X w h;have hil:i< X.table.length:=(List.getElem?_eq_some_iff.1 hi).1;obtain⟨k,hk⟩:∃k,i / X.row=k:=⟨_,rfl⟩;have hjl:j< X.free.length∧X.free.getD j false=true:=by have:=(nxt_some.1 hj);exact⟨this.2.1,this.2.2.1⟩
 have HFL:=yH h;obtain⟨L,d,b,A,ca,vp,vt,vo,h,hF⟩:=h;obtain⟨c0,f0,s0⟩:=h.blk.facts;have ho:=h.opn;rw[hx] at ho;obtain⟨c,vw,M1,s1,vl,M2,s2,rfl,hi2⟩:=ho;obtain⟨g,ct,rfl,hgl,hlg,hce,hfe⟩:=h.entry hi;have hdz:=h.dsk.sml
 have htf:=fun u (hu:Grew w u)=>gtouch_ok p i k 1 F X o u (HFL.out.grew hu) hx (by have:=hz.free;omega) (by have:=hz.row;omega) hk (hk▸hz.k64 hil) (by have:=hz.tab.2;omega) (by omega) (by rw[←hk];exact hm)
 have hlv:=fun F1 w1 (h1:GS w1 p F1 { X.touch o k with free:=trn X.free j })=>leave_lft p s k j F1 X o w1 h1 (by have:=hz.free;omega) (by have:=hz.free;omega) hf hll;have u1:(0:Int)≤(i:Int):=by omega
 have u2:(i:Int)< (X.table.length:Int):=by omega
 have hlk:(Instr.lookup 103 (.map (some M1)) (.int .i64 s) false).run prog w.drew= .ok (.bool false) w.drew:=by
  have:=(hi2.fr.grew ((Chg.refl _ w).drew)).look (t:=103) kInt underlying3 underlying103 (zBool w.drew) (i:=(s:Int)) (wfInt (by omega) (by have:=hz.free;omega));rwa[mB_getD,hf] at this
 have hp4:w.drew.cell? ⟨p,4,none⟩=some (.slice (some ⟨g,0,none⟩) X.table.length ct):=(h.blk.drew).cell 4;have hp6:w.drew.cell? ⟨p,6,none⟩=some (.pointer (some ⟨c,0,none⟩)):=(h.blk.drew).cell 6;have hc1:w.drew.cell? ⟨c,1,none⟩=some (.map (some M1)):=(hi2.blk.drew).cell 1;have hgi:w.drew.cell? ⟨g,i,none⟩=some (.int .i64 s):=hce
 have e3:((bs.length:Int) !=(X.D.sz:Int))=false:=by simp[hb]
 have hj4:j< 4096:=by have:=hz.free;omega
 have hxl:X.free.length≤65536:=by have:=hz.free;omega
 have H:=yH (yA5 hrd hus hsz htf (yA3 hlv hi hj));have H2:=yH (yA5 hfj hd ha hdn (yA5 hb hsl hsF hF (yA3 hz.free hk hjl)));have hsl':=hsl;have hFs:=hF;clear h hr hrd hus hsz hx hz hi hs hf hi2 htf hlv hb hd ha hF c0 f0 hdn hce hj hfj hll hm hsl hsF hsl' hFs hk hjl;go_enter func21,ntmps21
 go_wp2_with (first
  | (go_at_call 54;(refine H.out.1.mono ?_);rintro e w1 ⟨rfl,rfl⟩)
  | (go_at_call 57;(refine H.out.2.1.mono ?_);rintro e w1 ⟨rfl,rfl⟩)
  | (go_at_call 58;(refine H.out.2.2.1.mono ?_);rintro e w1 ⟨rfl,rfl⟩))
 refine wp_region_held_drew (S:=fun w'=>w'.cell? ⟨p,4,none⟩=some (.slice (some ⟨g,0,none⟩) X.table.length ct)∧w'.cell? ⟨p,6,none⟩=some (.pointer (some ⟨c,0,none⟩))∧w'.cell? ⟨c,1,none⟩=some (.map (some M1))∧w'.cell? ⟨g,i,none⟩=some (.int .i64 s)∧(Instr.lookup 103 (.map (some M1)) (.int .i64 s) false).run prog w'= .ok (.bool false) w') (by kernel_rfl) ⟨hp4,hp6,hc1,hgi,hlk⟩ (fun hHeld=>?_)
 refine Todo.out (is:=[0,1,2,3,4,5,6,7,8,9,10,11,12,13,14]) ?_
 repeat
  refine tkH (v:=?_) rfl (Or.inl ⟨by rfl,?_⟩) hHeld ?_;rotate_left
  ·(intro w hSw;(try dsimp only at hSw);go_simp)<;>with_reducible rfl
  (try simp only[Act.put,lZ])
 refine Todo.fin ?_;refine rdH (i:=15) (by kernel_rfl) rfl fun K hK=>?_;go_simp;refine hK.out _ _ hHeld (fun _=>?_);clear hK K;(try simp only[Act.put,lZ])
 refine wpAnyH_done (by kernel_rfl) ?_ _;clear hHeld hlk hp4 hp6 hc1 hgi hgl hlg hfe s0;go_wp2_with fail
 refine(H.out.2.2.2.1 _ ((Chg.refl _ _).drew)).mono ?_;rintro e w1 ⟨rfl,F1,⟨L1,d1,b1,A1,ca1,vp1,vt1,vo1,hg,hF1⟩,hc1,hn1⟩;obtain⟨c9,f9,s9⟩:=hg.blk.facts;have HT:=yH (yA4 hg hF1 hc1 hn1);clear hg hF1 hc1 hn1;go_wp2_with fail
 refine(ptake_some b1 j X.free A1 ca1 _ HT.out.1.pol hxl HT.out.1.tab (yP6 H.out)).mono ?_;rintro e w2 ⟨rfl,h2,h3⟩;clear c9 f9 s9;obtain⟨hp2,ht2⟩:=HT.out.1.pool h2 h3;obtain⟨c9,f9,s9⟩:=hp2.blk.facts;obtain⟨g2,ct2,rfl,hgl,hlg,hce,hfe⟩:=hp2.entry (i:=i) (s:=s) (yP4 H.out).2.1;have HU:=yH (yA3 hp2 ht2 (hp2.gs));clear hp2 ht2 h2 h3;go_wp2_with fail
 refine((yP4 H.out).1 _ _ HU.out.2.2).mono ?_;rintro e w3 ⟨rfl,F3,⟨L3,d3,b3,A3,ca3,vp3,vt3,vo3,hg,hF3⟩,hc3,hn3⟩;clear c9 f9 s9 hgl hlg hce hfe;have ho3:OpnIn w3 L3 vo3 (some (o.lft k s)):=hg.opn;obtain⟨c3,vw3,M3,s13,vl3,M23,s23,rfl,hi3⟩:=ho3;obtain⟨gT,cT,rfl,hgl,hlg,hce,hfe⟩:=hg.entry (i:=i) (s:=s) (yP4 H.out).2.1;obtain⟨hgt0,htt0⟩:=hg.tset rfl i j
 have hgt:=hgt0.grew ((Chg.refl _ _).drew);have htt:Trn w3 (w3.setCell ⟨gT,i,none⟩ (.int .i64 j)).drew L3 L3 5:=Trn.keep (htt0.chg.drew) hg.lt (by omega);have hi4:=hi3.keep htt (by omega);obtain⟨v0,st,o1,o2,hr1,hr2,hgp,htp⟩:=hgt.frput hi4 hj4 H2.out.1;simp only[goInt] at hr1 hr2;have HG:=yH (yA4 hg hF3 hc3 hn3);have HG2:=yH (yA5 hgt htt hi4 hgp htp)
 have hS:w3.drew.cell? ⟨p,4,none⟩=some (.slice (some ⟨gT,0,none⟩) X.table.length cT)∧w3.drew.cell? ⟨p,6,none⟩=some (.pointer (some ⟨c3,0,none⟩))∧w3.drew.cell? ⟨c3,1,none⟩=some (.map (some M3)):=⟨(hg.blk.drew).cell 4,(hg.blk.drew).cell 6,(hi3.blk.drew).cell 1⟩
 have hS4:(w3.setCell ⟨gT,i,none⟩ (.int .i64 j)).drew.cell? ⟨p,4,none⟩=some (.slice (some ⟨gT,0,none⟩) X.table.length cT)∧(w3.setCell ⟨gT,i,none⟩ (.int .i64 j)).drew.cell? ⟨p,6,none⟩=some (.pointer (some ⟨c3,0,none⟩))∧(w3.setCell ⟨gT,i,none⟩ (.int .i64 j)).drew.cell? ⟨c3,1,none⟩=some (.map (some M3)):=by
  have hb:=hgt.blk;simp only[List.length_set] at hb;exact⟨hb.cell 4,hb.cell 6,hi4.blk.cell 1⟩
 have hS5:∀u,Chg (fun j=>j=M3) (w3.setCell ⟨gT,i,none⟩ (.int .i64 j)).drew u→u.cell? ⟨p,4,none⟩=some (.slice (some ⟨gT,0,none⟩) X.table.length cT)∧u.cell? ⟨p,6,none⟩=some (.pointer (some ⟨c3,0,none⟩))∧u.cell? ⟨c3,1,none⟩=some (.map (some M3)):=fun u hu=>by
  have hb:=(hgt.blk).chg hu (fun e=>by have:=hgt.lp;have:=hi4.lf;rw[←e] at this;omega);have hb2:=hi4.blk.chg hu (fun e=>by have:=hi4.lc;have:=hi4.lf;rw[←e] at this;omega);exact⟨hb.cell 4,hb.cell 6,hb2.cell 1⟩
 have HS5:=yH hS5;clear hg hF3 hc3 hn3 hi3 hgt0 htt0 hgt htt hi4 hgp htp hS5 hlg;go_wp2_with fail
 refine wp_region_held_drew (S:=fun w'=>w'.cell? ⟨p,4,none⟩=some (.slice (some ⟨gT,0,none⟩) X.table.length cT)∧w'.cell? ⟨p,6,none⟩=some (.pointer (some ⟨c3,0,none⟩))∧w'.cell? ⟨c3,1,none⟩=some (.map (some M3))) (by kernel_rfl) hS (fun hHeld=>?_);refine Todo.out (is:=[0,1,2,3,4,5,6,7,8,9,10,11,12,13,14]) ?_
 repeat
  refine tkH (v:=?_) rfl (Or.inl ⟨by rfl,?_⟩) hHeld ?_;rotate_left
  ·(intro w hSw;(try dsimp only at hSw);go_simp)<;>with_reducible rfl
  (try simp only[Act.put,lZ])
 refine Todo.fin ?_;refine rdH (i:=15) (by kernel_rfl) rfl fun K hK=>?_;go_simp;refine hK.out _ _ hS4 (fun _=>?_);clear hK K;(try simp only[Act.put,lZ])
 refine rdH (i:=16) (by kernel_rfl) rfl fun K hK=>?_;go_simp;refine hK.out _ _ (HS5.out _ (setBlock_turns _ M3 o1)) (fun _=>?_);clear hK K;(try simp only[Act.put,lZ])
 refine tkH1 (i:=17) (v:=?_) rfl (Or.inl ⟨by rfl,?_⟩) (HS5.out _ (setBlock_turns _ M3 o1)) ?_;rotate_left
 ·(intro w hSw;(try dsimp only at hSw);go_simp)<;>with_reducible rfl
 (try simp only[Act.put,lZ])
 refine rdH (i:=18) (by kernel_rfl) rfl fun K hK=>?_;go_simp;refine hK.out _ _ (HS5.out _ (Chg.trans (setBlock_turns _ M3 o1) (setBlock_turns _ M3 o2) fun _ _ e=>e)) (fun _=>?_);clear hK K;(try simp only[Act.put,lZ])
 refine wpAnyH_done (by kernel_rfl) ?_ _;have hge:=HG2.out.2.2.2.1;have hte:=(yP4 HG2.out);clear hHeld hS hS4 HS5 hr1 hr2 hgl hce hfe;obtain⟨W5,hW5⟩:∃W,setBlock (setBlock (w3.setCell ⟨gT,i,none⟩ (.int .i64 j)).drew M3 o1) M3 o2=W:=⟨_,rfl⟩;rw[hW5] at hge hte ⊢
 have HC:=yH (show Rch F (fun j=>L3 j≠0) w W5 from
  (Rch.grew ((Chg.refl _ _).drew)).trans ((⟨HT.out.2.2.1,HT.out.2.2.2⟩:Rch F F1 _ _).trans (((HU.out.2.1.s (K:=fun m=>m=3) HT.out.1.lt rfl (by omega)).rch (by omega) HT.out.2.1).trans
   ((⟨HG.out.2.2.1,HG.out.2.2.2⟩:Rch _ F3 _ _).trans (((HG2.out.2.1.s (K:=fun m=>m=5∨m=8) HG.out.1.lt (.inl rfl) (by omega)).trans (hte.s (K:=fun m=>m=5∨m=8) HG2.out.1.lt (.inr rfl) (by omega))).rch (by omega) HG.out.2.1)))))
 have hdw:∀u,Grew W5 u→Calls prog 62 #[.pointer (some ⟨d3,0,none⟩),.int .i64 (j:Int),.slice Ab bs.length cb] u fun e' w'=>e'= .returned (.int .i64 0)∧DTo u w' d3 (fun j=>L3 j=2) (X.D.wr j bs):=fun u hg=>by
  refine dwrite_ok d3 j bs Ab hA cb _ X.D u (hge.dsk.grew hg) H2.out.2.1 H2.out.2.2.1 (by omega) (by have:=(yP8 H2.out).1;have:=(yP10 H2.out).1;omega) (yP4 H2.out).1 (((yP4 H2.out).2.1.chg HC.out.chg (yP6 H2.out).1).grew hg)
 have HE:=yH (yA5 hge HG.out.2.1 hdw (show(X.table.set i j)[i]? =some j from List.getElem?_set_self hil) H2.out.2.2.2.1);have hpp0:W5.drew.cell? ⟨p,0,none⟩=some (.pointer (some ⟨d3,0,none⟩)):=(hge.blk.drew).cell 0;have hpp4:W5.drew.cell? ⟨p,4,none⟩=some (.slice (some ⟨gT,0,none⟩) X.table.length cT):=(hge.blk.drew).cell 4
 have hggi:W5.drew.cell? ⟨gT,i,none⟩=some (.int .i64 j):=by
  obtain⟨g9,ct9,e9, -, -,hce9, -⟩:=hge.entry (i:=i) (s:=j) HE.out.2.2.2.1;obtain rfl:gT=g9:=by injection e9 with q1;injection q1 with q1;injection q1
  exact hce9
 have HE3:=yH (yA3 hpp0 hpp4 hggi);clear hge hte hW5 hdw hpp0 hpp4 hggi;go_wp2_with fail
 refine wp_region_held_drew (S:=fun w'=>w'.cell? ⟨p,0,none⟩=some (.pointer (some ⟨d3,0,none⟩))∧w'.cell? ⟨p,4,none⟩=some (.slice (some ⟨gT,0,none⟩) X.table.length cT)∧w'.cell? ⟨gT,i,none⟩=some (.int .i64 j)) (by kernel_rfl) HE3.out (fun hHeld=>?_);refine Todo.out (is:=[0,1,2,3,4,5,6,7,8,9,10,11,12]) ?_
 repeat
  refine tkH (v:=?_) rfl (Or.inl ⟨by rfl,?_⟩) hHeld ?_;rotate_left
  ·(intro w hSw;(try dsimp only at hSw);go_simp)<;>with_reducible rfl
  (try simp only[Act.put,lZ])
 refine Todo.fin ?_;refine rdH (i:=13) (by kernel_rfl) rfl fun K hK=>?_;go_simp;refine(HE.out.2.2.1 _ ((Chg.refl _ _).drew)).mono ?_;rintro e w3 ⟨rfl,h3⟩;obtain⟨L3,hG3,ht3⟩:=(HE.out.1.grew ((Chg.refl _ _).drew)).disk h3;obtain⟨g3,ct3,e3',hgl3,hlg3,hce3,hfe3⟩:=hG3.entry (i:=i) (s:=j) HE.out.2.2.2.1
 obtain rfl:gT=g3:=by injection e3' with q1;injection q1 with q1;injection q1
 have hb3:=hG3.blk;have hpg:p≠gT:=fun e=>by have:=hG3.lp;rw[e] at this;omega
 have hHeld3:w3.cell? ⟨p,0,none⟩=some (.pointer (some ⟨d3,0,none⟩))∧w3.cell? ⟨p,4,none⟩=some (.slice (some ⟨gT,0,none⟩) X.table.length cT)∧w3.cell? ⟨gT,i,none⟩=some (.int .i64 j):=⟨hb3.cell 0,hb3.cell 4,hce3⟩;have HG:=yH (yA3 hG3 ht3 hce3);clear hb3 hG3 ht3 h3 hgl3 hlg3 hce3 hfe3;refine hK.out _ _ hHeld3 (fun _=>?_);clear hK K;(try simp only[Act.put,lZ])
 refine rdH (i:=14) (by kernel_rfl) rfl fun K hK=>?_;go_simp;refine(gnote_at p 0 _ _ HG.out.1.blk (by show _=some (Value.bool false);rw[← (yP4 HE.out)];rfl) rfl).mono ?_;rintro e w4 ⟨rfl,hw4⟩
 have hHeld4:w4.cell? ⟨p,0,none⟩=some (.pointer (some ⟨d3,0,none⟩))∧w4.cell? ⟨p,4,none⟩=some (.slice (some ⟨gT,0,none⟩) X.table.length cT)∧w4.cell? ⟨gT,i,none⟩=some (.int .i64 j):=by
  subst hw4;exact⟨(HG.out.1.blk.put 7 (.bool false)).cell 0,(HG.out.1.blk.put 7 (.bool false)).cell 4,by rw[World.cell?_setCell_far _ _ _ _ hpg];exact HG.out.2.2⟩
 have HW4:=yH hw4;clear hw4;refine hK.out _ _ hHeld4 (fun _=>?_);clear hK K;(try simp only[Act.put,lZ])
 refine rdH (i:=15) (by kernel_rfl) rfl fun K hK=>?_;go_simp;refine hK.out _ _ hHeld4 (fun _=>?_);clear hK K;(try simp only[Act.put,lZ])
 refine wpAnyH_done (by kernel_rfl) ?_ _;clear hHeld hHeld3 hHeld4;go_wp2
 go_ret
 refine⟨rfl,?_⟩;have hfl:=HG.out.1.flag false;rw[HW4.out] at hfl;refine To.then HC.out.chg HC.out.new (To.ahead (w':=W5.drew) ((Chg.refl _ _).drew) ?_);have hgo:=hfl.1.toS (K:=fun m=>m=2∨m=1) ((HG.out.2.1.s HE.out.1.lt (.inl rfl) (by omega)).trans (hfl.2.s HG.out.1.lt (.inr rfl) (by omega))) (by omega) (fun _=>Iff.rfl)
 have e:X.fill o i s j bs= { X with D:=X.D.wr j bs,table:=X.table.set i j,free:=trn X.free j,op:=some { o.lft k s with fresh:=setB (o.lft k s).fresh j true },down:=false }:=by
  unfold Gp.fill Cg.fill Cg.lft;rw[(yP8 H2.out).2.1,←H2.out.2.2.2.1]
 rw[e];exact hgo
end
section
open Go.RowKit Go.Maps
theorem clone_ints (l:List Nat) (A:Option Addr) (c:Nat) (w:World) (h:w.ownsRow 0 3 1 (.slice A l.length c) l.length (nv l)) (hn:l.length≤1000000) :
  Calls prog 68 #[.slice A l.length c] w fun e w'=>OwnOut w w' 3 1 l.length (nv l) (fun A c=> .slice A l.length c) e:=by
 obtain⟨i0,hi0,hz0,hz1,hz2⟩:=info_parts i64Info;rcases A with _ | a
 ·obtain⟨hl0,rfl⟩:=own_none h
  obtain rfl:l=[]:=List.eq_nil_of_length_eq_zero hl0;have hsl:=fun(w:World)=>Lib.run_eql_slice_nil (P:=prog) w 22 3 none 0 0 0 0 underlying22;go_enter func68,ntmps68
  go_wp2
  go_ret
  exact OwnOut.mk none 0 rfl (World.ownsRow_nil _ _ _ _) (Chg.refl _ _)
 ·obtain⟨g,rfl,hg⟩:=own_some h
  have hsl:=fun(w:World)=>Lib.run_eql_slice_nil (P:=prog) w 22 3 (some ⟨g,0,none⟩) l.length c 0 0 underlying22;have H:=yH h;clear h;go_enter func68,ntmps68
  go_wp2_with (at_builtin;(refine wpList_append_own _ rfl _ _ _ rfl w.heap.size 3 i0 _ 1 8 underlying22 hi0 hz0 hz1 hz2 rfl (by omega) (.slice (some ⟨w.heap.size,0,none⟩) 0 0) 0 [] rfl (World.ownsRow_lit w #[] 0 (Nat.le_refl _) (by simp[maxLen]) (by simp)) ⟨g,0,none⟩ l.length c (nv l) rfl (by rw[nv_len];omega) ((H.out.alloc _).cells (g:=g) rfl) (nv_one l) (by simp only[maxLen];omega) (by omega) (by simp) ?_);intro v1 w1 hown1 hgrow hnil;have HO:=yH hown1;have HG:=yH hgrow;clear hown1 hgrow hnil)
  go_ret
  obtain⟨A',c',rfl, -⟩:=own_shape HO.out;refine OwnOut.mk A' c' ?_ ?_ ?_
  ·have:=HO.out;simp
  ·simpa using HO.out
  ·exact((Chg.refl NoF w).alloc _).grown HG.out (fun k hk hlt=>by simp[Value.ownBlock] at hk;omega)
def Gp.begun (X:Gp):Gp:= { X with op:=some ⟨X.table,fun _=>false,[],fun _=>false⟩ }
theorem mB_none:mB (fun _=>false)=fun _=>none:=by
 funext i
 simp[mB]
theorem cntN_no (n:Nat):cntN (fun _=>false) n=0:=cntN_false fun _ _=>rfl
section
variable {w w1:World} {L:Nat→Nat} {p d b ca c M1 M2:Nat} {X:Gp} {A:Option Addr} {vp vt vw:Value} {F:Nat→Prop}
theorem GIn.begin (h:GIn w L p X d b A ca vp vt none) (hF:∀j,F j↔L j≠0) (hg:Grew w w1) (hb:Blk w1 c 105 #[vw,.map (some M1),.slice none 0 0,.map (some M2)])
  (hw:w1.ownsRow w.heap.size 3 1 vw X.table.length (nv X.table)) (h1:IMap prog 3 w1 M1 (fun _=>none) 0) (h2:IMap prog 3 w1 M2 (fun _=>none) 0)
  (hn:w.heap.size≤c∧w.heap.size≤M1∧w.heap.size≤M2∧c≠M1∧c≠M2∧M1≠M2) (hv:∀j,vw.ownBlock=some j→j≠M1∧j≠M2) :
  GTo w (w1.setCell ⟨p,6,none⟩ (.pointer (some ⟨c,0,none⟩))) p F X.begun:=by
 obtain⟨n1,n2,n3,n4,n5,n6⟩:=hn;have hcv:∀j,vw.ownBlock=some j→j≠c:=fun j hj e=>own_blk_ne hw hb (by decide) (e▸hj);have hG:=h.grew hg;obtain⟨L',hL'⟩:∃L':Nat→Nat,L'=fun j=>if j=c then 6 else if j=M1 then 8 else if j=M2 then 10 else if vw.ownBlock=some j then 7 else L j:=⟨_,rfl⟩
 have hnew:∀j,j=c∨j=M1∨j=M2∨vw.ownBlock=some j→w.heap.size≤j∧j< w1.heap.size:=by
  rintro j (rfl | rfl | rfl | e)
  ·exact⟨n1,hb.lt⟩
  ·exact⟨n2,h1.lt⟩
  ·exact⟨n3,h2.lt⟩
  ·exact hw.lt j e
 have hold:∀j,j< w.heap.size→L' j=L j:=fun j hj=>by
  have hn:¬ (j=c∨j=M1∨j=M2∨vw.ownBlock=some j):=fun e=>by have:=(hnew j e).1;omega
  simp only[not_or] at hn;rw[hL'];simp only[hn.1,hn.2.1,hn.2.2.1,hn.2.2.2,if_false]
 have hoz:∀j,¬ (j=c∨j=M1∨j=M2∨vw.ownBlock=some j)→L' j=L j:=fun j hn=>by
  simp only[not_or] at hn;rw[hL'];simp only[hn.1,hn.2.1,hn.2.2.1,hn.2.2.2,if_false]
 have hge:∀j,w.heap.size≤j→L j=0:=fun j hj=>by
  by_cases e:L j=0
  ·exact e
  ·have:=h.lt j e;omega
 have l6:L' c=6:=by rw[hL'];simp
 have l8:L' M1=8:=by rw[hL'];simp[Ne.symm n4]
 have l10:L' M2=10:=by rw[hL'];simp[Ne.symm n5,Ne.symm n6]
 have l7:∀j,vw.ownBlock=some j→L' j=7:=fun j hj=>by rw[hL'];simp[hcv j hj,(hv j hj).1,(hv j hj).2,hj]
 have hsame:∀j m,m< 6→m≠0→(L' j=m↔L j=m):=fun j m hm h0=>by
  by_cases hj:j=c∨j=M1∨j=M2∨vw.ownBlock=some j
  ·have e0:=hge j (hnew j hj).1
   rw[e0];refine⟨fun e=>?_,fun e=>absurd e.symm h0⟩;rcases hj with rfl | rfl | rfl | hj
   ·omega
   ·omega
   ·omega
   ·have:=l7 j hj;omega
  ·rw[hoz j hj]
 have hp:=h.lt p (by rw[h.lp];omega);have hc1:Chg (fun j=>j=p) w1 (w1.setCell ⟨p,6,none⟩ (.pointer (some ⟨c,0,none⟩))):=(Chg.refl (fun j=>j=p) _).setCell (p:=⟨p,6,none⟩) (fun _=>rfl) _;have hcL:Chg (fun j=>L j=1) w1 (w1.setCell ⟨p,6,none⟩ (.pointer (some ⟨c,0,none⟩))):=hc1.mono fun i _ e=>e▸h.lp
 have hset:∀m,m< 6→m≠0→(fun j=>L' j=m)=(fun j=>L j=m):=fun m h1 h2=>funext fun j=>propext (hsame j m h1 h2);have htab:=tab_chg hG.tab hcL (by rw[h.l0];omega)
 have hGI:GIn (w1.setCell ⟨p,6,none⟩ (.pointer (some ⟨c,0,none⟩))) L' p X.begun d b A ca vp vt (some ⟨c,0,none⟩):=by
  refine⟨?_,(hsame p 1 (by omega) (by omega)).2 h.lp,?_,hG.pol.chg hcL fun j hj e=>by have:=h.lo j hj;omega,fun j hj=>(hsame j 3 (by omega) (by omega)).2 (h.lo j hj),
   own_lab hG.pgs h.lg hcL (by omega),fun j hj=>(hsame j 4 (by omega) (by omega)).2 (h.lg j hj),own_lab hG.tbl h.lb hcL (by omega),fun j hj=>(hsame j 5 (by omega) (by omega)).2 (h.lb j hj),?_,fun j hj=>?_,?_,htab⟩
  ·have:=hG.blk.put 6 (.pointer (some ⟨c,0,none⟩))
   simpa [Gp.begun] using this
  ·rw[hset 2 (by omega) (by omega)]
   exact hG.dsk.chg hcL fun j hj e=>by omega
  ·refine⟨c,vw,M1,0,.slice none 0 0,M2,0,rfl,⟨hb.chg hc1 (by omega),l6,own_chg (own_base hw (Nat.zero_le _)) hc1 fun g hg e=>by have:=(hw.lt g hg).1;omega,l7,by rw[mB_none];exact h1.chg hc1 (by omega),l8,
    World.ownsRow_nil _ _ _ _,fun j hj=>by simp[Value.ownBlock] at hj,by rw[mB_none];exact h2.chg hc1 (by omega),l10,⟨(cntN_no _).symm,fun j hj=>by simp at hj⟩,⟨(cntN_no _).symm,fun j hj=>by simp at hj⟩⟩⟩
  ·by_cases hn:j=c∨j=M1∨j=M2∨vw.ownBlock=some j
   ·simpa using (hnew j hn).2
   ·have:=h.lt j (by rw[←hoz j hn];exact hj)
    have:=hg.size;simp[World.setCell]
    omega
  ·rw[hold 0 (tab_pos h.tab)];exact h.l0
 refine⟨fun j=>L' j≠0,hGI.gs,Grew.then hg (hc1.mono fun i _ e=>(hF i).2 (by rw[e,h.lp];omega)),fun j hj=>?_⟩;by_cases e:j< w.heap.size
 ·exact .inl ((hF j).2 (by rw[←hold j e];exact hj))
 ·exact .inr (by omega)
end
theorem gbegin_ok (p:Nat) (F:Nat→Prop) (X:Gp) (w:World) (h:GS w p F X) (hd:X.down=false) (hx:X.op=none) (hl:X.table.length≤4096) :
  Calls prog 27 #[.pointer (some ⟨p,0,none⟩)] w fun e' w'=>e'= .returned (.int .i64 0)∧GTo w w' p F X.begun:=by
 obtain⟨L,d,b,A,ca,vp,vt,vo,h,hF⟩:=h;have ho:=h.opn;rw[hx] at ho;obtain rfl:vo=none:=ho;obtain⟨At,ct,rfl, -⟩:=own_shape h.tbl;obtain⟨c0,f0,s0⟩:=h.blk.facts;rw[hd] at c0;have hmm:= @run_makeMap prog;have H:=yH (yA3 h hF (clone_ints X.table At ct w h.tbl (by omega)));have HB:=yH h.blk;clear h hF hx;go_enter func27,ntmps27
 go_wp2_with (go_at_call 68;(refine H.out.2.2.mono ?_);rintro e w1 ⟨A1,c1,rfl,ho1,hg1⟩;obtain⟨c9,f9,s9⟩:=((((HB.out.grew hg1).alloc (.map #[] 0)).alloc (.map #[] 0)).alloc (.cells #[.slice A1 X.table.length c1,.map (some w1.heap.size),.slice none 0 0,.map (some (w1.heap.size+1))] 105)).facts;have HC:=yH (yA ho1 hg1);clear ho1 hg1 c0 f0 s0)
 go_ret
 refine⟨rfl,?_⟩;have hg:=Grew.trans HC.out.2 ((((Chg.refl NoF w1).alloc (.map #[] 0)).alloc (.map #[] 0)).alloc (.cells #[.slice A1 X.table.length c1,.map (some w1.heap.size),.slice none 0 0,.map (some (w1.heap.size+1))] 105));have hsz:=HC.out.2.size
 refine H.out.1.begin H.out.2.1 hg (c:=w1.heap.size+1+1) (M1:=w1.heap.size) (M2:=w1.heap.size+1) (vw:= .slice A1 X.table.length c1) ?_ ?_ ?_ ?_ (by omega) ?_
 ·have:=Blk.new ((w1.alloc (.map #[] 0)).alloc (.map #[] 0)) 105 #[.slice A1 X.table.length c1,.map (some w1.heap.size),.slice none 0 0,.map (some (w1.heap.size+1))]
  simpa using this
 ·exact own_grew HC.out.1 ((((Chg.refl NoF w1).alloc (.map #[] 0)).alloc (.map #[] 0)).alloc _)
 ·exact(IMap.made prog 3 w1).grew (((Chg.refl NoF _).alloc (.map #[] 0)).alloc _)
 ·have:=(IMap.made prog 3 (w1.alloc (.map #[] 0))).grew ((Chg.refl NoF _).alloc (.cells #[.slice A1 X.table.length c1,.map (some w1.heap.size),.slice none 0 0,.map (some (w1.heap.size+1))] 105))
  simpa using this
 ·intro j hj
  have:=(HC.out.1.lt j hj).2;omega
end
section
open Go.RowKit
def bodyL (ep:Nat) (l:List Nat):List Int:=grp (2*ep)++grp (2*l.length)++grps l
def tail8 (ep:Nat):List Int:=[((ep / 72057594037927936 % 256:Nat):Int),((ep / 281474976710656 % 256:Nat):Int),((ep / 1099511627776 % 256:Nat):Int),((ep / 4294967296 % 256:Nat):Int),((ep / 16777216 % 256:Nat):Int),((ep / 65536 % 256:Nat):Int),((ep / 256 % 256:Nat):Int),((ep % 256:Nat):Int)]
def rootL (ep:Nat) (l:List Nat) (sz:Nat):List Int:=sealL (bodyL ep l) (sz - 12)++tail8 ep
theorem bodyL_byte (ep:Nat) (l:List Nat):∀x∈bodyL ep l,0≤x∧x≤255:=by
 intro x hx;simp only[bodyL,grps,List.mem_append,List.mem_flatMap] at hx;rcases hx with (hx | hx) | ⟨n, -,hx⟩
 ·exact grp_byte _ _ (Nat.le_refl _) x hx
 ·exact grp_byte _ _ (Nat.le_refl _) x hx
 ·exact grp_byte _ _ (Nat.le_refl _) x hx
theorem goods {l:List Nat} (h:∀n∈l,n< 4096):∀x∈l.map (fun n:Nat=>(n:Int)),goodN x:=by
 intro x hx;obtain⟨n,hn,rfl⟩:=List.mem_map.1 hx;exact⟨by omega,by have:=h n hn;omega⟩
theorem bodyL_len {ep:Nat} {l:List Nat} (h1:ep≤1099511627776) (hl:l.length≤64) (h:∀n∈l,n< 4096):(bodyL ep l).length≤660∧0< (bodyL ep l).length:=by
 have a:=grp_len 10 (2*ep) (by omega) (by omega);have b:=grp_len 10 (2*l.length) (by omega) (by omega);have c:=grps_len l (fun n hn=>by have:=h n hn;omega)
 have d:0< (grp (2*ep)).length:=by
  by_cases h:2*ep< 128
  ·rw[grp_small h];simp
  ·rw[grp_more (by omega)];simp
 simp only[bodyL,List.length_append];omega
structure TailJ (w wr:World) (b0:Nat) (bx:Array Value) (S:List Int) (ep k n c:Nat) (A:Option Addr):Prop where
 own:wr.ownsRow w.heap.size 5 1 (.slice A (n+k) c) (n+k) (bv S++bv ((tail8 ep).take k))
 blk:Blk wr b0 112 bx
 grew:Grew w wr
theorem TailJ.more {w wr w1:World} {b0:Nat} {bx:Array Value} {S:List Int} {ep k n c:Nat} {A A1:Option Addr} {c1:Nat} (h:TailJ w wr b0 bx S ep k n c A) {e:Int} (he:bv ((tail8 ep).take k)++[.int .u8 e]=bv ((tail8 ep).take (k+1)))
  (ho:w1.ownsRow w.heap.size 5 1 (.slice A1 (n+k+1) c1) (n+k+1) (bv S++bv ((tail8 ep).take k)++[.int .u8 e])) (ha:Ap wr w1 (.slice A (n+k) c) (.slice A1 (n+k+1) c1)):TailJ w w1 b0 bx S ep (k+1) n c1 A1:=
 ⟨by rw[List.append_assoc,he] at ho;exact ho,h.blk.chg ha.chg fun e=>own_blk_ne h.own h.blk (by decide) e,ha.grow h.grew fun j hj=>(h.own.lt j hj).1⟩
theorem rbytes_ok (ep:Nat) (l:List Nat) (sz:Nat) (A:Option Addr) (c:Nat) (w:World) (hs:Sl w 1 A l.length (nv l)) (h1:1≤ep) (h2:ep≤1099511627776) (hl:l.length≤64) (hg:∀n∈l,n< 4096) (hsz:sz≤4096) (hfit:(bodyL ep l).length+14≤sz) :
  Calls prog 104 #[.agg #[.int .i64 ep,.slice A l.length c],.int .i64 sz] w fun e w'=>OwnOut w w' 5 1 sz (bv (rootL ep l sz)) (fun A c=> .tuple #[.slice A sz c,.int .i64 0]) e:=by
 have hr:=right_any ep (l.map fun n:Nat=>(n:Int)) A c;rw[List.length_map,←nv_iv] at hr
 have hrt:rightB ep (l.map fun n:Nat=>(n:Int))=true:=by
  unfold rightB;rw[decide_eq_true (show(1:Int)≤(ep:Int) from by omega),decide_eq_true (show(ep:Int)≤1099511627776 from by omega),decide_eq_true (show(l.map fun n:Nat=>(n:Int)).length≤64 from by simpa using hl),decide_eq_true (goods hg)]
  rfl
 rw[hrt] at hr;have hbl:=bodyL_len h2 hl hg;have hft:=fit_ok (bodyL ep l) (sz - 12);rw[show sz - 12+4=sz - 8 from by omega] at hft;have hsl:=sealL_len (b:=bodyL ep l) (m:=sz - 12) (by omega);rw[show sz - 12+4=sz - 8 from by omega] at hsl;have H:=yH (yA5 hs hr hft hg hsl);have hsub:(sz:Int) - 8=((sz - 8:Nat):Int):=by omega
 obtain⟨w0,rfl⟩:∃w0:World,w0=w:=⟨_,rfl⟩;obtain⟨sz8,hsz8⟩:∃s,sz - 8=s:=⟨_,rfl⟩;rw[hsz8] at hsub H;have HWR:=yH (show IntKind.i64.wrap ((if (sz:Int)< 8 then 8 else(sz:Int)) - 8)=(sz8:Int) from by rw[if_neg (by omega),hsub];exact wrap_nat (by omega));clear hsub;have HZ:=yH hsz8;clear hs hr hrt hft hsl hg hsz8;go_enter func104,ntmps104
 go_wp2_with (go_at_call 134;(refine(H.out.2.1 _ (H.out.1.grew ((Chg.refl _ _).alloc _)) (by omega)).mono ?_);rintro e w1 ⟨rfl,hg1⟩;have HG1:=yH hg1;clear hg1)
 obtain⟨b0,hb0⟩:∃b,w0.heap.size=b:=⟨_,rfl⟩;have HB:=yH (show Blk w1 b0 112 #[.int .i64 ep,.slice A l.length c] from hb0▸(Blk.new w0 112 #[.int .i64 ep,.slice A l.length c]).grew HG1.out);have HG0:=yH (Grew.trans ((Chg.refl NoF w0).alloc _) HG1.out);obtain⟨W2,hW2⟩:∃W2,w1.alloc (.cells #[.slice none 0 0] 169)=W2:=⟨_,rfl⟩
 have HO2:=yH (show OutIs w1 W2 w1.heap.size [] from hW2▸OutIs.made w1 w1 (Chg.refl _ _));have HG2:=yH (show Grew w1 W2 from hW2▸(Chg.refl _ _).alloc _);obtain⟨o,ho⟩:∃o,w1.heap.size=o:=⟨_,rfl⟩;rw[ho] at HO2 ⊢;rw[hb0,hW2]
 have hS:W2.drew.cell? ⟨b0,0,none⟩=some (.int .i64 ep)∧W2.drew.cell? ⟨b0,1,none⟩=some (.slice A l.length c):=⟨(HB.out.grew HG2.out).cell 0,(HB.out.grew HG2.out).cell 1⟩;have Hb0:=yH hb0;clear hW2 ho HG1 hb0
 refine wp_region_held_drew (S:=fun w'=>w'.cell? ⟨b0,0,none⟩=some (.int .i64 ep)∧w'.cell? ⟨b0,1,none⟩=some (.slice A l.length c)) (by kernel_rfl) hS (fun hHeld=>?_);have hb2:=(HB.out.grew HG2.out).lt
 have keep:∀w',Grew w1 w'→w'.cell? ⟨b0,0,none⟩=some (.int .i64 ep)∧w'.cell? ⟨b0,1,none⟩=some (.slice A l.length c):=fun w' hg=>⟨(HB.out.grew hg).cell 0,(HB.out.grew hg).cell 1⟩;have KP:=yH keep;clear keep hS;refine Todo.out (is:=[0,1,3,4,7,8,9]) ?_
 repeat
  refine tkH (v:=?_) rfl (Or.inl ⟨by rfl,?_⟩) hHeld ?_;rotate_left
  ·(intro w hSw;(try dsimp only at hSw);go_simp)<;>with_reducible rfl
  (try simp only[Act.put,lZ])
 refine Todo.fin ?_;refine rdH (i:=2) (by kernel_rfl) rfl fun K hK=>?_;go_simp;refine(oint_any w1 o [] ep _ (HO2.out.on ((Chg.refl _ _).drew)) (by simp) (by omega)).mono ?_;rintro e w3 ⟨rfl,ho3⟩;have HO3:=yH ho3;have hHeld3:=KP.out w3 ho3.grew;clear ho3;refine hK.out _ _ hHeld3 (fun _=>?_);clear hK K;(try simp only[Act.put,lZ])
 refine rdH (i:=5) (by kernel_rfl) rfl fun K hK=>?_;go_simp;refine(oints_any w1 o ([]++grp (2*ep)) l A c _ HO3.out (H.out.1.grew HG0.out) (by have:=grp_len 10 (2*ep) (by omega) (by omega);simp;omega) (by omega) (fun n hn=>by have:=H.out.2.2.2.1 n hn;omega)).mono ?_;rintro e w4 ⟨rfl,ho4⟩;have HO4:=yH (show OutIs w1 w4 o (bodyL ep l) from by simpa [bodyL] using ho4)
 have hHeld4:=KP.out w4 ho4.grew;clear ho4;refine hK.out _ _ hHeld4 (fun _=>?_);clear hK K;(try simp only[Act.put,lZ])
 refine rdH (i:=6) (by kernel_rfl) rfl fun K hK=>?_;go_simp;refine(oall_any w1 o (bodyL ep l) _ HO4.out hbl.2 (by omega)).mono ?_;rintro e w5 ⟨A5,c5,rfl,ho5,hg5⟩;have HO5:=yH (yA ho5 (Grew.trans HO4.out.grew hg5));have hHeld5:=KP.out w5 HO5.out.2;clear ho5 hg5;refine hK.out _ _ hHeld5 (fun _=>?_);clear hK K;(try simp only[Act.put,lZ])
 refine rdH (i:=10) (by kernel_rfl) rfl fun K hK=>?_;go_simp;rw[HWR.out];((with_reducible refine(H.out.2.2.1 A5 c5 _ (by have:=HZ.out;omega) (by have:=HZ.out;omega) (Sl.of_own (own_base HO5.out.1 (Nat.zero_le _))) (bodyL_byte ep l)).mono ?_))
 rintro e w6 ⟨A6,c6,rfl,ho6,hg6⟩;have HO6:=yH (yA ho6 (Grew.trans HO5.out.2 hg6));have hHeld6:=KP.out w6 HO6.out.2;clear ho6 hg6;refine hK.out _ _ hHeld6 (fun _=>?_);clear hK K;(try simp only[Act.put,lZ])
 refine Todo.out (is:=[11,12,13,14]) ?_
 repeat
  refine tkH (v:=?_) rfl (Or.inl ⟨by rfl,?_⟩) hHeld6 ?_;rotate_left
  ·(intro w hSw;(try dsimp only at hSw);go_simp)<;>with_reducible rfl
  (try simp only[Act.put,lZ])
 refine Todo.fin ?_;refine rdH (i:=15) (by kernel_rfl) rfl fun K hK=>?_;go_simp;refine hK.out _ _ hHeld6 (fun _=>?_);clear hK K;(try simp only[Act.put,lZ])
 refine wpAnyH_done (by kernel_rfl) ?_ _;have hb6:w0.heap.size≤w5.heap.size:=Nat.le_trans HG0.out.size HO5.out.2.size;have HJ:=yH (show TailJ w0 w6 b0 #[.int .i64 ep,.slice A l.length c] (sealL (bodyL ep l) (sz - 12)) ep 0 sz8 c6 A6 from⟨by have:=own_base HO6.out.1 hb6;simpa [bv] using this,HB.out.grew HO6.out.2,Grew.trans HG0.out HO6.out.2⟩)
 obtain⟨S,hS⟩:∃S,sealL (bodyL ep l) (sz - 12)=S:=⟨_,rfl⟩;rw[hS] at HJ;have HS:=yH hS;have hz8:sz8≤4096:=by have:=HZ.out;omega
 clear hS hHeld hHeld3 hHeld4 hHeld5 hHeld6 hb2 hb6 HO6 HO5 HO4 HO3 HO2 HG2;go_wp2
 go_loopw [7,9,29] (fun v x i wr=>∃ (k c':Nat) (A':Option Addr),k≤8∧i= .int .i64 k∧v= .slice A' (sz8+k) c'∧TailJ w0 wr b0 #[.int .i64 ep,.slice A l.length c] S ep k sz8 c' A') (fun _ _ i _=>8 - (intOf i).toNat)
 case atStart=>exact⟨0,c6,A6,by omega,rfl,rfl,HJ.out⟩
 case round=>
  obtain⟨k,c',A',hk,rfl,rfl,hj⟩:=hrel;obtain⟨x0,f0,s0⟩:=hj.blk.facts;have x00:=x0 0;simp only[List.getElem?_toArray,List.getElem?_cons_zero] at x00;have HR:=yH hj;have hbs:w0.heap.size≤wr.heap.size:=hj.grew.size;clear hj x0 f0;have hk':k=0∨k=1∨k=2∨k=3∨k=4∨k=5∨k=6∨k=7∨k=8:=by omega
  rcases hk' with rfl | rfl | rfl | rfl | rfl | rfl | rfl | rfl | rfl
  case inr.inr.inr.inr.inr.inr.inr.inr=>
   go_wp2
   go_ret2
   have h1:=HR.out.own;rw[show(tail8 ep).take 8=tail8 ep from rfl,←HS.out] at h1;have e:sz8+8=sz:=by have:=HZ.out;omega
   rw[e] at h1 ⊢;exact OwnOut.mk A' c' rfl (by simpa [rootL,bv] using h1) HR.out.grew
  all_goals
   go_wp2_with (at_builtin;(refine app_byte rfl (.tmp 32) (.tmp 40) rfl w0.heap.size _ _ _ rfl HR.out.own _ rfl (by omega) hbs ?_);intro v1 w1 h1 h2;have HA:=yH (yA h1 h2);clear h1 h2)
   obtain⟨A1,c1,rfl, -⟩:=own_shape HA.out.1;go_wp2
   refine⟨⟨_,c1,A1,?_,rfl,rfl,HR.out.more ?_ HA.out.1 HA.out.2⟩,?_⟩
   ·first | omega | decide
   ·simp[tail8,bv]<;>omega
   ·simp[intOf]
end
section
open Go.RowKit
theorem rbytes_many (ep:Nat) (l:List Nat) (sz:Nat) (A:Option Addr) (c:Nat) (w:World) (hs:Sl w 1 A l.length (nv l)) (h1:1≤ep) (h2:ep≤1099511627776) (hl:l.length≤64) (hg:∀n∈l,n< 4096) (hsz:sz≤4096) (hlo:8≤sz) (hfit:sz< (bodyL ep l).length+14) :
  Calls prog 104 #[.agg #[.int .i64 ep,.slice A l.length c],.int .i64 sz] w fun e w'=>e= .returned (.tuple #[.slice none 0 0,.int .i64 12])∧Grew w w':=by
 have hr:=right_any ep (l.map fun n:Nat=>(n:Int)) A c;rw[List.length_map,←nv_iv] at hr
 have hrt:rightB ep (l.map fun n:Nat=>(n:Int))=true:=by
  unfold rightB;rw[decide_eq_true (show(1:Int)≤(ep:Int) from by omega),decide_eq_true (show(ep:Int)≤1099511627776 from by omega),decide_eq_true (show(l.map fun n:Nat=>(n:Int)).length≤64 from by simpa using hl),decide_eq_true (goods hg)]
  rfl
 rw[hrt] at hr;have hbl:=bodyL_len h2 hl hg;have hft:=fun A c w=>fit_no (bodyL ep l).length ((sz - 8:Nat):Int) A c w (by omega) (by omega) (by omega) (.inr (.inr (by omega)));have H:=yH (yA4 hs hr hft hg);have hsub:(sz:Int) - 8=((sz - 8:Nat):Int):=by omega
 obtain⟨w0,rfl⟩:∃w0:World,w0=w:=⟨_,rfl⟩;obtain⟨sz8,hsz8⟩:∃s,sz - 8=s:=⟨_,rfl⟩;rw[hsz8] at hsub H;have HWR:=yH (show IntKind.i64.wrap ((if (sz:Int)< 8 then 8 else(sz:Int)) - 8)=(sz8:Int) from by rw[if_neg (by omega),hsub];exact wrap_nat (by omega));clear hsub;have HZ:=yH hsz8;clear hs hr hrt hft hg hsz8;go_enter func104,ntmps104
 go_wp2_with (go_at_call 134;(refine(H.out.2.1 _ (H.out.1.grew ((Chg.refl _ _).alloc _)) (by omega)).mono ?_);rintro e w1 ⟨rfl,hg1⟩;have HG1:=yH hg1;clear hg1)
 obtain⟨b0,hb0⟩:∃b,w0.heap.size=b:=⟨_,rfl⟩;have HB:=yH (show Blk w1 b0 112 #[.int .i64 ep,.slice A l.length c] from hb0▸(Blk.new w0 112 #[.int .i64 ep,.slice A l.length c]).grew HG1.out);have HG0:=yH (Grew.trans ((Chg.refl NoF w0).alloc _) HG1.out);obtain⟨W2,hW2⟩:∃W2,w1.alloc (.cells #[.slice none 0 0] 169)=W2:=⟨_,rfl⟩
 have HO2:=yH (show OutIs w1 W2 w1.heap.size [] from hW2▸OutIs.made w1 w1 (Chg.refl _ _));have HG2:=yH (show Grew w1 W2 from hW2▸(Chg.refl _ _).alloc _);obtain⟨o,ho⟩:∃o,w1.heap.size=o:=⟨_,rfl⟩;rw[ho] at HO2 ⊢;rw[hb0,hW2]
 have hS:W2.drew.cell? ⟨b0,0,none⟩=some (.int .i64 ep)∧W2.drew.cell? ⟨b0,1,none⟩=some (.slice A l.length c):=⟨(HB.out.grew HG2.out).cell 0,(HB.out.grew HG2.out).cell 1⟩;have Hb0:=yH hb0;clear hW2 ho HG1 hb0
 refine wp_region_held_drew (S:=fun w'=>w'.cell? ⟨b0,0,none⟩=some (.int .i64 ep)∧w'.cell? ⟨b0,1,none⟩=some (.slice A l.length c)) (by kernel_rfl) hS (fun hHeld=>?_);have hb2:=(HB.out.grew HG2.out).lt
 have keep:∀w',Grew w1 w'→w'.cell? ⟨b0,0,none⟩=some (.int .i64 ep)∧w'.cell? ⟨b0,1,none⟩=some (.slice A l.length c):=fun w' hg=>⟨(HB.out.grew hg).cell 0,(HB.out.grew hg).cell 1⟩;have KP:=yH keep;clear keep hS;refine Todo.out (is:=[0,1,3,4,7,8,9]) ?_
 repeat
  refine tkH (v:=?_) rfl (Or.inl ⟨by rfl,?_⟩) hHeld ?_;rotate_left
  ·(intro w hSw;(try dsimp only at hSw);go_simp)<;>with_reducible rfl
  (try simp only[Act.put,lZ])
 refine Todo.fin ?_;refine rdH (i:=2) (by kernel_rfl) rfl fun K hK=>?_;go_simp;refine(oint_any w1 o [] ep _ (HO2.out.on ((Chg.refl _ _).drew)) (by simp) (by omega)).mono ?_;rintro e w3 ⟨rfl,ho3⟩;have HO3:=yH ho3;have hHeld3:=KP.out w3 ho3.grew;clear ho3;refine hK.out _ _ hHeld3 (fun _=>?_);clear hK K;(try simp only[Act.put,lZ])
 refine rdH (i:=5) (by kernel_rfl) rfl fun K hK=>?_;go_simp;refine(oints_any w1 o ([]++grp (2*ep)) l A c _ HO3.out (H.out.1.grew HG0.out) (by have:=grp_len 10 (2*ep) (by omega) (by omega);simp;omega) (by omega) (fun n hn=>by have:=H.out.2.2.2 n hn;omega)).mono ?_;rintro e w4 ⟨rfl,ho4⟩;have HO4:=yH (show OutIs w1 w4 o (bodyL ep l) from by simpa [bodyL] using ho4)
 have hHeld4:=KP.out w4 ho4.grew;clear ho4;refine hK.out _ _ hHeld4 (fun _=>?_);clear hK K;(try simp only[Act.put,lZ])
 refine rdH (i:=6) (by kernel_rfl) rfl fun K hK=>?_;go_simp;refine(oall_any w1 o (bodyL ep l) _ HO4.out hbl.2 (by omega)).mono ?_;rintro e w5 ⟨A5,c5,rfl,ho5,hg5⟩;have HO5:=yH (yA ho5 (Grew.trans HO4.out.grew hg5));have hHeld5:=KP.out w5 HO5.out.2;clear ho5 hg5;refine hK.out _ _ hHeld5 (fun _=>?_);clear hK K;(try simp only[Act.put,lZ])
 refine rdH (i:=10) (by kernel_rfl) rfl fun K hK=>?_;go_simp;rw[HWR.out];((with_reducible refine(H.out.2.2.1 A5 c5 _).mono ?_))
 rintro e w6 ⟨rfl,rfl⟩;refine hK.out _ _ hHeld5 (fun _=>?_);clear hK K;(try simp only[Act.put,lZ])
 refine Todo.out (is:=[11,12,13,14]) ?_
 repeat
  refine tkH (v:=?_) rfl (Or.inl ⟨by rfl,?_⟩) hHeld5 ?_;rotate_left
  ·(intro w hSw;(try dsimp only at hSw);go_simp)<;>with_reducible rfl
  (try simp only[Act.put,lZ])
 refine Todo.fin ?_;refine rdH (i:=15) (by kernel_rfl) rfl fun K hK=>?_;go_simp;refine hK.out _ _ hHeld5 (fun _=>?_);clear hK K;(try simp only[Act.put,lZ])
 refine wpAnyH_done (by kernel_rfl) ?_ _;go_wp2
 go_ret2
 exact⟨rfl,Grew.trans HG0.out HO5.out.2⟩
def fitsN (n sz:Nat):Bool:=decide ((bodyL 1099511627776 (List.replicate n 4095)).length+14≤sz)
theorem fits_any (n sz:Nat) (w:World) (hn:n≤64) (hlo:8≤sz) (hsz:sz≤4096) :
  Calls prog 112 #[.int .i64 n,.int .i64 sz] w fun e w'=>e= .returned (.bool (fitsN n sz))∧Grew w w':=by
 have hrep:∀m∈List.replicate n 4095,m< 4096:=fun m hm=>by rw[List.eq_of_mem_replicate hm];omega
 have hlen:(List.replicate n 4095).length=n:=List.length_replicate;have a1:decide ((n:Int)< 0)=false:=decide_eq_false (by omega);have a2:decide ((64:Int)< (n:Int))=false:=decide_eq_false (by omega);by_cases hfit:(bodyL 1099511627776 (List.replicate n 4095)).length+14≤sz
 ·have hf:fitsN n sz=true:=decide_eq_true hfit
  rw[hf]
  have hb:∀A c w,Sl w 1 A n (nv (List.replicate n 4095))→Calls prog 104 #[.agg #[.int .i64 1099511627776,.slice A n c],.int .i64 sz] w fun e w'=>OwnOut w w' 5 1 sz (bv (rootL 1099511627776 (List.replicate n 4095) sz)) (fun A c=> .tuple #[.slice A sz c,.int .i64 0]) e:=fun A c w h=>by
   have:=rbytes_ok 1099511627776 (List.replicate n 4095) sz A c w (by rw[hlen];exact h) (by omega) (by omega) (by omega) hrep hsz hfit;rw[hlen] at this;exact this
  have H:=yH hb;clear hb hf hfit hlen hrep;go_enter func112,ntmps112
  go_wp2_with (first
   | (go_at_call 142;(refine(repeat_any n 4095 _ 1 _ hn (Blk.new _ _ _)).mono ?_);rintro e w1 ⟨A1,c1,rfl,h1,h2⟩;have HR:=yH (yA h1 h2);clear h1 h2)
   | (go_at_call 104;(refine(H.out A1 c1 _ (Sl.of_own (own_base HR.out.1 (Nat.zero_le _)))).mono ?_);rintro e w2 ⟨A2,c2,rfl,h3,h4⟩;have HS:=yH (yA h3 h4);clear h3 h4))
  go_ret
  exact⟨rfl,Grew.trans (Grew.trans ((Chg.refl _ _).alloc _) HR.out.2) HS.out.2⟩
 ·have hf:fitsN n sz=false:=decide_eq_false hfit
  rw[hf]
  have hb:∀A c w,Sl w 1 A n (nv (List.replicate n 4095))→Calls prog 104 #[.agg #[.int .i64 1099511627776,.slice A n c],.int .i64 sz] w fun e w'=>e= .returned (.tuple #[.slice none 0 0,.int .i64 12])∧Grew w w':=fun A c w h=>by
   have:=rbytes_many 1099511627776 (List.replicate n 4095) sz A c w (by rw[hlen];exact h) (by omega) (by omega) (by omega) hrep hsz hlo (by omega);rw[hlen] at this;exact this
  have H:=yH hb;clear hb hf hfit hlen hrep;go_enter func112,ntmps112
  go_wp2_with (first
   | (go_at_call 142;(refine(repeat_any n 4095 _ 1 _ hn (Blk.new _ _ _)).mono ?_);rintro e w1 ⟨A1,c1,rfl,h1,h2⟩;have HR:=yH (yA h1 h2);clear h1 h2)
   | (go_at_call 104;(refine(H.out A1 c1 _ (Sl.of_own (own_base HR.out.1 (Nat.zero_le _)))).mono ?_);rintro e w2 ⟨rfl,h4⟩;have HS:=yH h4;clear h4))
  go_ret
  exact⟨rfl,Grew.trans (Grew.trans ((Chg.refl _ _).alloc _) HR.out.2) HS.out⟩
end
section
open Go.RowKit
def crcZ:Nat→Nat→Bool
 | 0,_=>true
 | n+1,x=> !Nat.beq x 4294967295 && crcZ n (crcS x 0)
theorem crcZ_no:∀ (n x:Nat),crcZ n x=true→∀k,k< n→crcR x (List.replicate k 0)≠4294967295
 | 0,_,_,k,hk=>by omega
 | n+1,x,h,k,hk=>by
  simp only[crcZ,Bool.and_eq_true,Bool.not_eq_true'] at h
  cases k with
  | zero=>
   intro e;have e':x=4294967295:=e;rw[e'] at h
   simp at h
  | succ k=>
   rw[List.replicate_succ];exact crcZ_no n (crcS x 0) h.2 k (by omega)
theorem crcZ_all:crcZ 4096 (crcS 4294967295 0)=true:=by kernel_rfl
theorem xor_zero_eq {a b:Nat} (h:a ^^^ b=0):b=a:=by
 have:a ^^^ (a ^^^ b)=b:=by rw[←Nat.xor_assoc,Nat.xor_self,Nat.zero_xor]
 rw[h,Nat.xor_zero] at this;exact this.symm
theorem crc_zeros (n:Nat) (h:1≤n) (h2:n≤4096):crc (List.replicate n 0)≠0:=by
 obtain⟨k,rfl⟩:∃k,n=k+1:=⟨n - 1,by omega⟩;intro e;have:=crcZ_no 4096 _ crcZ_all k (by omega);refine this ?_;have h3:=xor_zero_eq e;rw[List.replicate_succ] at h3;exact h3
theorem lowB_zero {x:Nat} (hx:x< 4294967296) (h:lowB x=[0,0,0,0]):x=0:=by
 simp only[lowB,List.cons.injEq,and_true] at h;omega
theorem part_zeros (m:Nat) (h:6≤m) (h2:m≤4096):partL (List.replicate m 0)=none:=by
 have hc:cntL (List.replicate m 0)=0:=by
  unfold cntL;rw[List.getElem?_replicate,List.getElem?_replicate,if_pos (by omega),if_pos (by omega)];rfl
 unfold partL;rw[hc,if_neg (by omega),List.take_zero];rw[List.length_replicate]
 have hf:fitL [] (m - 4)=List.replicate (m - 4) 0:=by
  unfold fitL;have e:m - 4=(m - 4 - 2)+1+1:=by omega
  rw[e,List.replicate_succ,List.replicate_succ];simp
 have hb:∀x∈List.replicate m (0:Int),0≤x∧x≤255:=fun x hx=>by rw[List.eq_of_mem_replicate hx];omega
 rw[eqB_eq (sealL_byte (by simp)) hb,decide_eq_false]
 ·rfl
 ·intro e
  unfold sealL at e
  rw[hf,show List.replicate m (0:Int)=List.replicate (m - 4) 0++[0,0,0,0] from by
   rw[show [(0:Int),0,0,0]=List.replicate 4 0 from rfl,List.replicate_append_replicate];congr 1;omega] at e
  have:=List.append_cancel_left e;exact crc_zeros (m - 4) (by omega) (by omega) (lowB_zero (crc_lt fun x hx=>by rw[List.eq_of_mem_replicate hx];omega) this)
theorem parse_no (b:List Int) (A:Option Addr) (c:Nat) (w:World) (hl:14≤b.length) (hm:b.length≤65536) (hs:Sl w 1 A b.length (bv b)) (hb:∀x∈b,0≤x∧x≤255) (hc:b.length≤c) (hp:partL (b.take (b.length - 8))=none) :
  Calls prog 114 #[.slice A b.length c] w fun e w'=>e= .returned (.tuple #[.agg #[.int .i64 0,.slice none 0 0],.bool false])∧Grew w w':=by
 have hlen:(b.take (b.length - 8)).length=b.length - 8:=by rw[List.length_take];omega
 have hpt:∀w',Grew w w'→Calls prog 143 #[.slice A (b.length - 8) c] w' fun e w2=>e= .returned (.tuple #[.slice none 0 0,.bool false])∧Grew w' w2:=fun w' hg=>by
  have:=part_any (b.take (b.length - 8)) A c w' (by omega) (by omega) (by
   refine⟨by rw[bv_len];omega,fun _=>?_⟩;obtain⟨g,off,e,hg,hx⟩:=(hs.grew hg).2 (by omega);refine⟨g,off,e,hg,fun j u hu=>hx j u ?_⟩;have hj:j< b.length - 8:=by have:=(List.getElem?_eq_some_iff.1 hu).1;rwa[bv_len,hlen] at this
   rw[←hu];simp[bv,List.getElem?_take,hj]) (fun x hx=>hb x (List.mem_of_mem_take hx)) (by omega)
  rw[hlen] at this;refine this.mono fun e w2 h=>?_;rw[hp] at h;exact h
 have H:=yH hpt;have d1:(8:Int)≤(b.length:Int):=by omega
 have d2:((b.length:Int) - 8).toNat=b.length - 8:=by omega
 have d3:(b.length:Int) - 8≤(c:Int):=by omega
 clear hpt hlen hp hb hs;go_enter func114,ntmps114
 go_wp2_with (go_at_call 143;(refine(H.out _ ((Chg.refl _ _).alloc _)).mono ?_);rintro e w1 ⟨rfl,h1⟩;obtain⟨c0,f0,s0⟩:=((Blk.new w 112 #[.int .i64 0,.slice none 0 0]).grew h1).facts;have H1:=yH h1;clear h1)
 refine bodyPost_ret (v:= .tuple #[.agg #[.int .i64 0,.slice none 0 0],.bool false]) (by simp[results,results114,go_sem,c0,f0,s0]) rfl ⟨rfl,?_⟩;exact((Grew.trans ((Chg.refl NoF w).alloc _) H1.out).setCell (p:=⟨w.heap.size,0,none⟩) (fun e=>absurd e (Nat.lt_irrefl _)) _).setCell (p:=⟨w.heap.size,1,none⟩) (fun e=>absurd e (Nat.lt_irrefl _)) _
def rootZ:Array Value:= #[.int .i64 0,.slice none 0 0]
theorem load_none (d:Nat) (F:Nat→Prop) (D:Dk) (w:World) (h:DS w d F D) (hd:D.down=false) (hn:2≤D.n) (hz:14≤D.sz) (hp:∀i:Nat,i< 2→partL ((D.rd i).take (D.sz - 8))=none) (hby:∀i:Nat,i< 2→∀x∈D.rd i,0≤x∧x≤255) :
  Calls prog 81 #[.pointer (some ⟨d,0,none⟩)] w fun e w'=>e= .returned (.tuple #[.agg #[.int .i64 0,.slice none 0 0],.int .i64 14])∧Grew w w':=by
 have hsm:=h.sml;have hrl:∀i:Nat,i< 2→(D.rd i).length=D.sz:=fun i hi=>h.rd_len (by omega) (by omega)
 have hrd:∀w',Grew w w'→∀i:Nat,i< 2→Calls prog 113 #[.pointer (some ⟨d,0,none⟩),.int .i64 (i:Int)] w' fun e w2=>OwnOut w' w2 5 1 D.sz (bv (D.rd i)) (fun A c=> .tuple #[.slice A D.sz c,.int .i64 0]) e:=fun w' hg i hi=>dread_ok d i F D w' (h.grew hg) hd (by omega) (by omega)
 have hps:∀ (i:Nat) (A:Option Addr) (c:Nat) (w':World),i< 2→Sl w' 1 A D.sz (bv (D.rd i))→D.sz≤c→Calls prog 114 #[.slice A D.sz c] w' fun e w2=>e= .returned (.tuple #[.agg #[.int .i64 0,.slice none 0 0],.bool false])∧Grew w' w2:=fun i A c w' hi hs hc=>by
  have:=parse_no (D.rd i) A c w' (by rw[hrl i hi];exact hz) (by rw[hrl i hi];omega) (by rw[hrl i hi];exact hs) (hby i hi) (by rw[hrl i hi];exact hc) (by rw[hrl i hi];exact hp i hi);rwa[hrl i hi] at this
 have H:=yH (yA3 h hrd hps);have hmin:min (2:Int) (D.n:Int)=2:=by omega
 have hmn:¬ (D.n:Int)< 2:=by omega
 obtain⟨w0,rfl⟩:∃w0:World,w0=w:=⟨_,rfl⟩;clear h hrd hps hp hby hrl;go_enter func81,ntmps81
 go_wp2_with (go_at_call 76;(refine(dsectors_any d F D _ (H.out.1.grew (((Chg.refl _ _).alloc _).alloc _))).mono ?_);rintro e w1 ⟨rfl,rfl⟩)
 obtain⟨W2,hW2⟩:∃W,(w0.alloc (.cells #[.int .i64 0,.slice none 0 0] 112)).alloc (.cells #[.int .i64 0,.slice none 0 0] 112)=W:=⟨_,rfl⟩;obtain⟨R,hR⟩:∃R,w0.heap.size=R:=⟨_,rfl⟩
 have HB:=yH (show Blk W2 R 112 rootZ∧Blk W2 (R+1) 112 rootZ∧Grew w0 W2 from hW2▸hR▸⟨(Blk.new w0 _ _).alloc _,by have:=Blk.new (w0.alloc (.cells rootZ 112)) 112 rootZ;simpa [rootZ] using this,((Chg.refl _ _).alloc _).alloc _⟩);have HR:=yH hR;rw[hW2,hR];clear hW2 hR
 go_loopw [5,13] (fun x i wr=>∃k:Nat,k≤2∧i= .int .i64 k∧Blk wr R 112 rootZ∧Blk wr (R+1) 112 rootZ∧Grew w0 wr) (fun _ i _=>2 - (intOf i).toNat)
 case atStart=>exact⟨0,Nat.zero_le _,rfl,HB.out⟩
 case round=>
  obtain⟨k,hk,rfl,hb1,hb2,hg⟩:=hrel;have HW:=yH (yA3 hb1 hb2 hg);clear hb1 hb2 hg;by_cases hlt:k< 2
  ·go_wp2_with (first
    | (go_at_call 113;(refine(H.out.2.1 _ HW.out.2.2 k hlt).mono ?_);rintro e w3 ⟨A3,c3,rfl,h3,h4⟩;have H3:=yH (yA h3 h4);clear h3 h4)
    | (go_at_call 114;(refine(H.out.2.2 k A3 c3 _ hlt (Sl.of_own (own_base H3.out.1 (Nat.zero_le _))) (by obtain⟨A',c',e,hc⟩:=own_shape H3.out.1;injection e with e1 e2 e3;omega)).mono ?_);rintro e w4 ⟨rfl,h5⟩;have H5:=yH h5;obtain⟨c0,f0,s0⟩:=((HW.out.2.1.grew H3.out.2).grew h5).facts;clear h5))
   exact⟨⟨k+1,by omega,by simp,((HW.out.1.grew H3.out.2).grew H5.out).alloc _,((HW.out.2.1.grew H3.out.2).grew H5.out).alloc _,(Grew.trans (Grew.trans HW.out.2.2 H3.out.2) H5.out).alloc _⟩,by simp[intOf];omega⟩
  ·obtain rfl:k=2:=by omega
   obtain⟨c0,f0,s0⟩:=(show Blk wr R 112 #[.int .i64 0,.slice none 0 0] from HW.out.1).facts;obtain⟨c1,f1,s1⟩:=HW.out.2.1.facts;have c10:=c1 0;simp only[rootZ,List.getElem?_toArray,List.getElem?_cons_zero] at c10;clear c1 f1;go_wp2
   refine bodyPost_ret (v:= .tuple #[.agg #[.int .i64 0,.slice none 0 0],.int .i64 14]) (by simp[results,results81,go_sem,c0,f0,s0]) rfl ⟨rfl,?_⟩;exact(HW.out.2.2.setCell (p:=⟨R,0,none⟩) (fun e=>absurd e (by have:=HR.out;simp only;omega)) _).setCell (p:=⟨R,1,none⟩) (fun e=>absurd e (by have:=HR.out;simp only;omega)) _
end
section
open Go.RowKit Go.Maps
def tabs (row need sz:Nat):Nat→Nat→Nat
 | 0,k=>k
 | f+1,k=>if fitsN (k+1) sz=true∧k*row< need then tabs row need sz f (k+1) else k
theorem tabs_le (row need sz:Nat):∀f k,k≤tabs row need sz f k∧tabs row need sz f k≤k+f
 | 0,k=>⟨Nat.le_refl _,Nat.le_refl _⟩
 | f+1,k=>by
  unfold tabs;split
  ·have:=tabs_le row need sz f (k+1);omega
  ·omega
def tabN (n sz:Nat):Nat:=tabs (sz / 2) (n - 2) sz 64 0
def capN (n sz:Nat):Nat:=if n - 2≤tabN n sz*(sz / 2) then n - 2 else tabN n sz*(sz / 2)
theorem ret_two {a b a' b':Int} (h1:a=a') (h2:b=b'):Ending.returned (.tuple #[.int .i64 a,.int .i64 b])= .returned (.tuple #[.int .i64 a',.int .i64 b']):=by rw[h1,h2]
theorem places_any (n sz:Nat) (w:World) (h1:8≤n) (h2:n≤4096) (h3:64≤sz) (h4:sz≤4096) :
  Calls prog 78 #[.int .i64 n,.int .i64 sz] w fun e w'=>e= .returned (.tuple #[.int .i64 (tabN n sz),.int .i64 (capN n sz)])∧Grew w w':=by
 obtain⟨row,hrow⟩:∃r,sz / 2=r:=⟨_,rfl⟩;obtain⟨need,hneed⟩:∃r,n - 2=r:=⟨_,rfl⟩;have hcap:capN n sz=if need≤tabN n sz*row then need else tabN n sz*row:=by unfold capN;rw[hrow,hneed]
 have htab:tabN n sz=tabs row need sz 64 0:=by unfold tabN;rw[hrow,hneed]
 obtain⟨T,hT⟩:∃T,tabs row need sz 64 0=T:=⟨_,rfl⟩;rw[hT] at htab;rw[htab] at hcap;have HCAP:=yH hcap;have HTAB:=yH htab;have e1:(sz:Int) / 2=(row:Int):=by omega
 have e2:(n:Int) - 2=(need:Int):=by omega
 have hr4:row≤2048:=by omega
 have hn4:need≤4096:=by omega
 have HT:=yH hT;obtain⟨w0,rfl⟩:∃w0:World,w0=w:=⟨_,rfl⟩;clear hcap htab hT hrow hneed;go_enter func78,ntmps78
 go_wp2
 go_loopw [4] (fun i wr=>∃k:Nat,k≤64∧i= .int .i64 k∧tabs row need sz (64 - k) k=T∧Grew w0 wr) (fun i _=>64 - (intOf i).toNat)
 case atStart=>exact⟨0,Nat.zero_le _,rfl,HT.out,Chg.refl _ _⟩
 case round=>
  obtain⟨k,hk,rfl,hTk,hg⟩:=hrel;have HG:=yH hg;have hkr:k*row≤64*2048:=Nat.mul_le_mul hk hr4;have em:(k:Int)*(row:Int)=((k*row:Nat):Int):=by simp
  obtain⟨m,hm⟩:∃m,k*row=m:=⟨_,rfl⟩;rw[hm] at em hkr;have HM:=yH hm;by_cases hlt:k< 64
  ·have ht:tabs row need sz (64 - k) k=if fitsN (k+1) sz=true∧k*row< need then tabs row need sz (64 - (k+1)) (k+1) else k:=by
    rw[show 64 - k=(64 - (k+1))+1 from by omega];rfl
   rw[ht,hm] at hTk;clear hg ht hm
   cases hf:fitsN (k+1) sz with
   | true=>
    rw[hf] at hTk;have hfa:=fun u=>fits_any (k+1) sz u (by omega) (by omega) h4;rw[hf] at hfa;have HFA:=yH hfa;by_cases hmn:m< need
    ·rw[if_pos ⟨rfl,hmn⟩] at hTk
     have HTK:=yH hTk;have a1:decide ((m:Int)< (need:Int))=true:=decide_eq_true (by omega);clear hTk hf hfa;go_wp2_with (go_at_call 112;(refine(HFA.out _).mono ?_);rintro e w1 ⟨rfl,hg1⟩;have HG1:=yH (Grew.trans HG.out hg1);clear hg1)
     exact⟨⟨k+1,by omega,by simp,HTK.out,HG1.out⟩,by simp[intOf];omega⟩
    ·rw[if_neg (fun h=>hmn h.2)] at hTk
     have HTK:=yH hTk;have a1:decide ((m:Int)< (need:Int))=false:=decide_eq_false (by omega);clear hTk hf hfa;go_wp2_with (go_at_call 112;(refine(HFA.out _).mono ?_);rintro e w1 ⟨rfl,hg1⟩;have HG1:=yH (Grew.trans HG.out hg1);clear hg1)
     go_ret2
     refine⟨ret_two (by rw[HTAB.out,HTK.out]) ?_,HG1.out⟩;rw[HCAP.out,←HTK.out,HM.out]
     (try split)<;>first | rfl | omega | (split<;>omega)
   | false=>
    rw[hf,if_neg (fun h=>by cases h.1)] at hTk;have hfa:=fun u=>fits_any (k+1) sz u (by omega) (by omega) h4;rw[hf] at hfa;have HFA:=yH hfa;have HTK:=yH hTk;clear hTk hf hfa;go_wp2_with (go_at_call 112;(refine(HFA.out _).mono ?_);rintro e w1 ⟨rfl,hg1⟩;have HG1:=yH (Grew.trans HG.out hg1);clear hg1)
    all_goals
     go_ret2
     refine⟨ret_two (by rw[HTAB.out,HTK.out]) ?_,HG1.out⟩;rw[HCAP.out,←HTK.out,HM.out];(try split)<;>first | rfl | omega | (split<;>omega)
  ·obtain rfl:k=64:=by omega
   have HTK:=yH (show(64:Nat)=T from hTk);clear hg hTk hm;go_wp2
   all_goals
    go_ret2
    refine⟨ret_two (by rw[HTAB.out,←HTK.out];rfl) ?_,HG.out⟩;rw[HCAP.out,←HTK.out,HM.out];(try split)<;>first | rfl | omega | (split<;>omega)
end
section
open Go.RowKit Go.Maps
inductive Pk where
 | no
 | zero
 | old (bs:List Int)
 | new (bs:List Int)
def Pk.used:Pk→Bool
 | .no=>false
 | _=>true
def Pk.isNew:Pk→Bool
 | .new _=>true
 | _=>false
def Pk.isOld:Pk→Bool
 | .old _=>true
 | _=>false
def Pk.bytes (sz:Nat):Pk→List Int
 | .no=>[]
 | .zero=>List.replicate sz 0
 | .old bs=>bs
 | .new bs=>bs
def pk (D:Dk) (fr:Nat→Bool) (s:Nat):Pk:=if s=0 then .no else if s=1 then .zero else if fr s then .new (D.rd s) else .old (D.rd s)
def GoodR (ep:Nat) (pg:List Nat):Prop:=1≤ep∧ep≤1099511627776∧pg.length≤64∧∀s∈pg,s< 4096
def tabL (tb:List Nat) (row sz k:Nat):List Int:=
 ((List.range row).flatMap fun i=>[((tb.getD (k*row+i) 0 % 256:Nat):Int),((tb.getD (k*row+i) 0 / 256 % 256:Nat):Int)])++List.replicate (sz - 2*row) 0
structure Dur (D:Dk) (ep:Nat) (pg tb:List Nat):Prop where
 root:1≤ep→D.rd ((ep % 2:Nat):Int)=rootL ep pg D.sz
 other:∀ (i e':Nat) pg',i< 2→GoodR e' pg'→e' % 2=i→D.rd (i:Int)=rootL e' pg' D.sz→e'≤ep∧(e'=ep→pg'=pg)
 zero:ep=0→∀s∈pg,s=0
 tab0:∀k,pg[k]? =some 0→∀i,i< D.sz / 2→tb.getD (k*(D.sz / 2)+i) 0=0
 tabs:∀ (k s:Nat),pg[k]? =some s→s≠0→D.rd (s:Int)=tabL tb (D.sz / 2) D.sz k
 tab1:∀ (k s:Nat),pg[k]? =some s→s≠0→∃i,i< D.sz / 2∧tb.getD (k*(D.sz / 2)+i) 0≠0
theorem Dur.congr {D D':Dk} {ep:Nat} {pg tb:List Nat} (h:Dur D ep pg tb) (hs:D'.sz=D.sz) (hr:∀s:Nat,(s< 2∨(s≠0∧∃k:Nat,pg[k]? =some s))→D'.rd (s:Int)=D.rd (s:Int)):Dur D' ep pg tb:=by
 refine⟨fun h1=>?_,fun i e' pg' hi hg he hd=>?_,h.zero,fun k hk=>?_,fun k s hk hs0=>?_,fun k s hk hs0=>?_⟩
 ·rw[hr _ (.inl (Nat.mod_lt _ (by omega))),hs];exact h.root h1
 ·rw[hr _ (.inl hi),hs] at hd;exact h.other i e' pg' hi hg he hd
 ·rw[hs];exact h.tab0 k hk
 ·rw[hr _ (.inr ⟨hs0,k,hk⟩),hs];exact h.tabs k s hk hs0
 ·rw[hs];exact h.tab1 k s hk hs0
structure Inv (D:Dk) (ep:Nat) (pg tb old:List Nat) (fe:List Bool) (fr:Nat→Bool) (lf:List Nat) (tc:Nat→Bool):Prop where
 sz:8≤D.n∧D.n≤4096∧64≤D.sz∧D.sz≤4096
 lens:fe.length=D.n∧pg.length=tabN D.n D.sz∧tb.length=capN D.n D.sz∧old.length=capN D.n D.sz
 rO:∀i s:Nat,old[i]? =some s→s< D.n
 rP:∀k s:Nat,pg[k]? =some s→s≠0→2≤s∧s< D.n
 jO:∀i j s:Nat,old[i]? =some s→old[j]? =some s→2≤s→i=j
 jP:∀i j s:Nat,pg[i]? =some s→pg[j]? =some s→s≠0→i=j
 dis:∀k i s:Nat,pg[k]? =some s→old[i]? =some s→s< 2
 acct:∀s,s< D.n→(fe.getD s false=false↔s< 2∨(∃k:Nat,pg[k]? =some s)∨(∃i:Nat,old[i]? =some s)∨fr s=true)
 frr:∀s,fr s=true→2≤s∧s< D.n∧(∀k:Nat,pg[k]? ≠some s)∧(∀i:Nat,old[i]? ≠some s)∧∃i:Nat,tb[i]? =some s
 cur:∀i s:Nat,tb[i]? =some s→2≤s→fr s=true∨old[i]? =some s
 jT:∀i j s:Nat,tb[i]? =some s→tb[j]? =some s→2≤s→i=j
 lf:lf.Nodup∧∀s,s∈lf↔2≤s∧∃i:Nat,old[i]? =some s∧tb[i]? ≠some s
 tcd:∀i:Nat,tb[i]? ≠old[i]? →tc (i / (D.sz / 2))=true
 tc6:∀k,tc k=true→k< pg.length
 room:cntN tc 64≤cnt fe
 cln:∀s:Nat,s< D.n→(s< 2∨(∃k:Nat,pg[k]? =some s)∨∃i:Nat,old[i]? =some s)→D.cache (s:Int)=none
 dur:Dur D ep pg old
 byt:∀s:Nat,s< D.n→∀x∈D.rd (s:Int),0≤x∧x≤255
 epo:ep≤1099511627776
 byd:∀s:Nat,s< D.n→∀x∈D.data s,0≤x∧x≤255
theorem cnt_trn_no {fe:List Bool} {j:Nat} (h:fe.getD j false=true):cnt (trn fe j)+1=cnt fe:=by
 have hj:j< fe.length:=by
  by_cases e:j< fe.length
  ·exact e
  ·rw[List.getD_eq_getElem?_getD,List.getElem?_eq_none (by omega)] at h;simp at h
 unfold cnt
 have e:(fun m=>(trn fe j).getD m false)=setB (fun m=>fe.getD m false) j false:=by
  funext m
  unfold trn setB;rw[getD_set _ _ _ _ hj,h];rfl
 have hl:(trn fe j).length=fe.length:=List.length_set;rw[e,hl];exact cntN_drop (fun m=>fe.getD m false) hj h
theorem cnt_trn_yes {fe:List Bool} {j:Nat} (hj:j< fe.length) (h:fe.getD j false=false):cnt (trn fe j)=cnt fe+1:=by
 unfold cnt
 have e:(fun m=>(trn fe j).getD m false)=setB (fun m=>fe.getD m false) j true:=by
  funext m
  unfold trn setB;rw[getD_set _ _ _ _ hj,h];rfl
 have hl:(trn fe j).length=fe.length:=List.length_set;rw[e,hl];exact cntN_yes (fun m=>fe.getD m false) hj h
theorem trn_getD {fe:List Bool} {j:Nat} (hj:j< fe.length) (s:Nat):(trn fe j).getD s false=if s=j then !fe.getD j false else fe.getD s false:=by
 unfold trn;rw[getD_set _ _ _ _ hj]
theorem take_there {fe:List Bool} (h:1≤cnt fe):∃j,nxt fe 0=some j∧j< fe.length∧fe.getD j false=true:=by
 cases hn:nxt fe 0 with
 | none=>
  have h1:=nxt_none.1 hn;have:cnt fe=0:=cntN_false fun j _=>h1 j (Nat.zero_le _)
  omega
 | some j=>exact⟨j,rfl,(nxt_some.1 hn).2.1,(nxt_some.1 hn).2.2.1⟩
theorem Dk.wr_rd (D:Dk) (j s:Nat) (bs:List Int):(D.wr j bs).rd (s:Int)=if s=j then bs else D.rd (s:Int):=by
 unfold Dk.rd Dk.wr;by_cases e:s=j
 ·subst e;simp
 ·have:¬ (s:Int)=(j:Int):=by omega
  simp[e,this]
theorem Dk.wr_cache (D:Dk) (j s:Nat) (bs:List Int) (h:s≠j):(D.wr j bs).cache (s:Int)=D.cache (s:Int):=by
 unfold Dk.wr;have:¬ (s:Int)=(j:Int):=by omega
 simp[this]
theorem set_at {α:Type} {tb:List α} {i k:Nat} {v:α} (hi:i< tb.length):(tb.set i v)[k]? =if k=i then some v else tb[k]? :=by
 rw[List.getElem?_set];by_cases e:i=k
 ·subst e;simp[hi]
 ·simp[e,Ne.symm e]
section
variable {D D':Dk} {ep i j k s:Nat} {pg tb old lf:List Nat} {fe:List Bool} {fr tc:Nat→Bool} {bs:List Int}
theorem Inv.row (h:Inv D ep pg tb old fe fr lf tc):32≤D.sz / 2:=by have:=h.sz;omega
theorem Inv.tch (h:Inv D ep pg tb old fe fr lf tc) (hk:k< pg.length) (hr:cntN (setB tc k true) 64≤cnt fe):Inv D ep pg tb old fe fr lf (setB tc k true):=
 ⟨h.sz,h.lens,h.rO,h.rP,h.jO,h.jP,h.dis,h.acct,h.frr,h.cur,h.jT,h.lf,fun i hi=>by unfold setB;by_cases e:i / (D.sz / 2)=k<;>simp only[e,if_true,if_false];exact h.tcd i hi,fun m hm=>by
  unfold setB at hm;split at hm
  ·omega
  ·exact h.tc6 m hm,hr,h.cln,h.dur,h.byt,h.epo,h.byd⟩
theorem Inv.fr0 (h:Inv D ep pg tb old fe fr lf tc) (hs:s< 2):fr s=false:=by
 cases e:fr s with
 | false=>rfl
 | true=>have:=(h.frr s e).1;omega
theorem Inv.zero (h:Inv D ep pg tb old fe fr lf tc) {v:Nat} (hi:tb[i]? =some s) (hs:s< 2) (hv:v< 2) (ht:tc (i / (D.sz / 2))=true):Inv D ep pg (tb.set i v) old fe fr lf tc:=by
 have hil:i< tb.length:=(List.getElem?_eq_some_iff.1 hi).1;refine⟨h.sz,by simpa using h.lens,h.rO,h.rP,h.jO,h.jP,h.dis,h.acct,fun m hm=>?_,fun m q hm hq=>?_,fun a b q ha hb hq=>?_,⟨h.lf.1,fun m=>?_⟩,fun m hm=>?_,h.tc6,h.room,h.cln,h.dur,h.byt,h.epo,h.byd⟩
 ·obtain⟨h1,h2,h3,h4,q,h5⟩:=h.frr m hm
  refine⟨h1,h2,h3,h4,q,?_⟩;rw[set_at hil,if_neg]
  ·exact h5
  ·rintro rfl
   rw[hi] at h5;injection h5 with h5;omega
 ·rw[set_at hil] at hm
  split at hm
  ·injection hm with hm;omega
  ·exact h.cur m q hm hq
 ·rw[set_at hil] at ha hb
  split at ha
  ·injection ha with ha;omega
  ·split at hb
   ·injection hb with hb;omega
   ·exact h.jT a b q ha hb hq
 ·rw[h.lf.2]
  refine and_congr_right fun hm=>exists_congr fun a=>and_congr_right fun ha=>?_;rw[set_at hil];by_cases e:a=i
  ·subst e
   rw[if_pos rfl,hi];simp only[ne_eq,Option.some.injEq];omega
  ·rw[if_neg e]
 ·by_cases e:m=i
  ·subst e;exact ht
  ·rw[set_at hil,if_neg e] at hm
   exact h.tcd m hm
theorem Inv.free (h:Inv D ep pg tb old fe fr lf tc) (hj:fe.getD j false=true):2≤j∧j< D.n∧(∀k:Nat,pg[k]? ≠some j)∧(∀i:Nat,old[i]? ≠some j)∧fr j=false∧∀i:Nat,tb[i]? ≠some j:=by
 have hjn:j< D.n:=by
  by_cases e:j< fe.length
  ·have:=h.lens.1;omega
  ·rw[List.getD_eq_getElem?_getD,List.getElem?_eq_none (by omega)] at hj;simp at hj
 have hn:¬ (j< 2∨(∃k:Nat,pg[k]? =some j)∨(∃i:Nat,old[i]? =some j)∨fr j=true):=fun e=>by
  have:=(h.acct j hjn).2 e;rw[hj] at this
  cases this
 simp only[not_or,not_exists] at hn;have hf:fr j=false:=by cases e:fr j with | false=>rfl | true=>exact absurd e hn.2.2.2
 refine⟨by omega,hjn,hn.2.1,hn.2.2.1,hf,fun i hi=>?_⟩;rcases h.cur i j hi (by omega) with e | e
 ·rw[hf] at e;cases e
 ·exact hn.2.2.1 i e
theorem Inv.write (h:Inv D ep pg tb old fe fr lf tc) (hj:j< D.n∧2≤j∧(∀k:Nat,pg[k]? ≠some j)∧∀i:Nat,old[i]? ≠some j) (hb:∀x∈bs,0≤x∧x≤255):Inv (D.wr j bs) ep pg tb old fe fr lf tc:=by
 refine⟨h.sz,h.lens,h.rO,h.rP,h.jO,h.jP,h.dis,h.acct,h.frr,h.cur,h.jT,h.lf,h.tcd,h.tc6,h.room,fun s hs hk=>?_,?_,fun s hs=>?_,h.epo,h.byd⟩
 ·rw[Dk.wr_cache]
  ·exact h.cln s hs hk
  ·rintro rfl
   rcases hk with e | ⟨k,e⟩ | ⟨i,e⟩
   ·omega
   ·exact hj.2.2.1 k e
   ·exact hj.2.2.2 i e
 ·refine h.dur.congr rfl fun s hs=>?_
  rw[Dk.wr_rd,if_neg];rintro rfl;rcases hs with e | ⟨-,k,e⟩
  ·omega
  ·exact hj.2.2.1 k e
 ·rw[Dk.wr_rd]
  split
  ·exact hb
  ·exact h.byt s hs
theorem Inv.fill (h:Inv D ep pg tb old fe fr lf tc) (hi:tb[i]? =some s) (hf:fr s=false) (hj:fe.getD j false=true) (ht:tc (i / (D.sz / 2))=true) (hr:cntN tc 64+1≤cnt fe) :
  Inv D ep pg (tb.set i j) old (trn fe j) (setB fr j true) (if s≤1 then lf else lf++[s]) tc:=by
 have hil:i< tb.length:=(List.getElem?_eq_some_iff.1 hi).1;obtain⟨j1,j2,j3,j4,j5,j6⟩:=h.free hj;have hjl:j< fe.length:=by rw[h.lens.1];exact j2
 refine⟨h.sz,by simpa [trn] using h.lens,h.rO,h.rP,h.jO,h.jP,h.dis,fun m hm=>?_,fun m hm=>?_,fun m q hm hq=>?_,fun a b q ha hb hq=>?_,?_,fun m hm=>?_,h.tc6,by have:=cnt_trn_no hj;omega,h.cln,h.dur,h.byt,h.epo,h.byd⟩
 ·rw[trn_getD hjl]
  unfold setB;by_cases e:m=j
  ·subst e;rw[if_pos rfl,hj];simp
  ·simp only[e,if_false]
   exact h.acct m hm
 ·unfold setB at hm
  by_cases e:m=j
  ·subst e
   exact⟨j1,j2,j3,j4,i,by rw[set_at hil,if_pos rfl]⟩
  ·simp only[e,if_false] at hm
   obtain⟨h1,h2,h3,h4,q,h5⟩:=h.frr m hm;refine⟨h1,h2,h3,h4,q,?_⟩;rw[set_at hil,if_neg]
   ·exact h5
   ·rintro rfl
    rw[hi] at h5;injection h5 with h5;rw[h5] at hf;rw[hf] at hm
    cases hm
 ·rw[set_at hil] at hm
  unfold setB;split at hm
  ·injection hm with hm;subst hm;simp
  ·rcases h.cur m q hm hq with e | e
   ·left;by_cases e2:q=j<;>simp only[e2,if_true,if_false];exact e
   ·exact .inr e
 ·rw[set_at hil] at ha hb
  split at ha
  ·split at hb
   ·omega
   ·injection ha with ha;subst ha;exact absurd hb (j6 b)
  ·split at hb
   ·injection hb with hb;subst hb;exact absurd ha (j6 a)
   ·exact h.jT a b q ha hb hq
 ·have key:∀a m:Nat,old[a]? =some m→((tb.set i j)[a]? ≠some m↔tb[a]? ≠some m∨a=i):=fun a m ha=>by
   rw[set_at hil];by_cases e:a=i
   ·subst e
    rw[if_pos rfl];have:j≠m:=fun e=>j4 a (e▸ha);simp[this]
   ·rw[if_neg e];simp[e]
  by_cases hs:s≤1
  ·rw[if_pos hs]
   refine⟨h.lf.1,fun m=>?_⟩;rw[h.lf.2];refine and_congr_right fun hm=>exists_congr fun a=>and_congr_right fun ha=>?_;rw[key a m ha];refine⟨.inl,fun e=>e.elim id ?_⟩;rintro rfl;rw[hi];simp only[ne_eq,Option.some.injEq];omega
  ·rw[if_neg hs]
   have hos:old[i]? =some s:=(h.cur i s hi (by omega)).resolve_left (by rw[hf];simp)
   have hsl:s∉lf:=fun e=>by
    obtain⟨-,a,ha,hb⟩:=(h.lf.2 s).1 e;obtain rfl:=h.jO a i s ha hos (by omega);exact hb hi
   refine⟨List.nodup_append.2 ⟨h.lf.1,by simp,fun a ha b hb=>?_⟩,fun m=>?_⟩
   ·simp only[List.mem_singleton] at hb
    subst hb;rintro rfl;exact hsl ha
   ·rw[List.mem_append,h.lf.2,List.mem_singleton]
    constructor
    ·rintro(⟨h1,a,ha,hb⟩ | rfl)
     ·exact⟨h1,a,ha,(key a m ha).2 (.inl hb)⟩
     ·exact⟨by omega,i,hos,(key i m hos).2 (.inr rfl)⟩
    ·rintro⟨h1,a,ha,hb⟩
     rcases(key a m ha).1 hb with e | rfl
     ·exact .inl ⟨h1,a,ha,e⟩
     ·rw[hos] at ha;injection ha with ha;exact .inr ha.symm
 ·by_cases e:m=i
  ·subst e;exact ht
  ·rw[set_at hil,if_neg e] at hm
   exact h.tcd m hm
theorem Inv.give (h:Inv D ep pg tb old fe fr lf tc) (hi:tb[i]? =some s) (hf:fr s=true) (ht:tc (i / (D.sz / 2))=true):Inv D ep pg (tb.set i 0) old (trn fe s) (setB fr s false) lf tc:=by
 have hil:i< tb.length:=(List.getElem?_eq_some_iff.1 hi).1;obtain⟨s1,s2,s3,s4, -⟩:=h.frr s hf;have hsl:s< fe.length:=by rw[h.lens.1];exact s2
 have hfe:fe.getD s false=false:=(h.acct s s2).2 (.inr (.inr (.inr hf)));refine⟨h.sz,by simpa [trn] using h.lens,h.rO,h.rP,h.jO,h.jP,h.dis,fun m hm=>?_,fun m hm=>?_,fun m q hm hq=>?_,fun a b q ha hb hq=>?_,⟨h.lf.1,fun m=>?_⟩,fun m hm=>?_,h.tc6,by have:=cnt_trn_yes hsl hfe;have:=h.room;omega,h.cln,h.dur,h.byt,h.epo,h.byd⟩
 ·rw[trn_getD hsl]
  unfold setB;by_cases e:m=s
  ·subst e
   simp only[if_true,hfe,Bool.not_false,Bool.true_eq_false,false_iff,not_or,not_exists,Bool.false_eq_true,not_false_eq_true,and_true];exact⟨by omega,s3,s4⟩
  ·simp only[e,if_false]
   exact h.acct m hm
 ·unfold setB at hm
  by_cases e:m=s
  ·simp[e] at hm
  ·simp only[e,if_false] at hm
   obtain⟨h1,h2,h3,h4,q,h5⟩:=h.frr m hm;refine⟨h1,h2,h3,h4,q,?_⟩;rw[set_at hil,if_neg]
   ·exact h5
   ·rintro rfl
    rw[hi] at h5;injection h5 with h5;exact e h5.symm
 ·rw [set_at hil] at hm
  unfold setB;split at hm
  ·injection hm with hm;omega
  ·rename_i hmi
   rcases h.cur m q hm hq with e | e
   ·left
    rw[if_neg]
    ·exact e
    ·rintro rfl
     exact hmi (h.jT m i q hm hi hq)
   ·exact .inr e
 ·rw[set_at hil] at ha hb
  split at ha
  ·injection ha with ha;omega
  ·split at hb
   ·injection hb with hb;omega
   ·exact h.jT a b q ha hb hq
 ·rw[h.lf.2]
  refine and_congr_right fun hm=>exists_congr fun a=>and_congr_right fun ha=>?_;rw[set_at hil];by_cases e:a=i
  ·subst e
   rw[if_pos rfl,hi];simp only[ne_eq,Option.some.injEq];have:s≠m:=fun e=>s4 a (e▸ha);omega
  ·rw[if_neg e]
 ·by_cases e:m=i
  ·subst e;exact ht
  ·rw[set_at hil,if_neg e] at hm
   exact h.tcd m hm
theorem Inv.left (h:Inv D ep pg tb old fe fr lf tc) (hi:tb[i]? =some s) (hs:2≤s) (hf:fr s=false) (ht:tc (i / (D.sz / 2))=true):Inv D ep pg (tb.set i 0) old fe fr (lf++[s]) tc:=by
 have hil:i< tb.length:=(List.getElem?_eq_some_iff.1 hi).1;have hos:old[i]? =some s:=(h.cur i s hi hs).resolve_left (by rw[hf];simp)
 have hsl:s∉lf:=fun e=>by
  obtain⟨-,a,ha,hb⟩:=(h.lf.2 s).1 e;obtain rfl:=h.jO a i s ha hos (by omega);exact hb hi
 refine⟨h.sz,by simpa using h.lens,h.rO,h.rP,h.jO,h.jP,h.dis,h.acct,fun m hm=>?_,fun m q hm hq=>?_,fun a b q ha hb hq=>?_,⟨List.nodup_append.2 ⟨h.lf.1,by simp,fun a ha b hb=>?_⟩,fun m=>?_⟩,fun m hm=>?_,h.tc6,h.room,h.cln,h.dur,h.byt,h.epo,h.byd⟩
 ·obtain⟨h1,h2,h3,h4,q,h5⟩:=h.frr m hm
  refine⟨h1,h2,h3,h4,q,?_⟩;rw[set_at hil,if_neg]
  ·exact h5
  ·rintro rfl
   rw[hi] at h5;injection h5 with h5;rw[h5] at hf;rw[hf] at hm
   cases hm
 ·rw[set_at hil] at hm
  split at hm
  ·injection hm with hm;omega
  ·exact h.cur m q hm hq
 ·rw[set_at hil] at ha hb
  split at ha
  ·injection ha with ha;omega
  ·split at hb
   ·injection hb with hb;omega
   ·exact h.jT a b q ha hb hq
 ·simp only[List.mem_singleton] at hb
  subst hb;rintro rfl;exact hsl ha
 ·rw[List.mem_append,h.lf.2,List.mem_singleton]
  constructor
  ·rintro(⟨h1,a,ha,hb⟩ | rfl)
   ·refine⟨h1,a,ha,?_⟩
    rw[set_at hil];split
    ·simp only[ne_eq,Option.some.injEq];omega
    ·exact hb
   ·refine⟨hs,i,hos,?_⟩
    rw[set_at hil,if_pos rfl];simp only[ne_eq,Option.some.injEq];omega
  ·rintro⟨h1,a,ha,hb⟩
   rw[set_at hil] at hb;by_cases e:a=i
   ·subst e;rw[hos] at ha;injection ha with ha;exact .inr ha.symm
   ·rw[if_neg e] at hb;exact .inl ⟨h1,a,ha,hb⟩
 ·by_cases e:m=i
  ·subst e;exact ht
  ·rw[set_at hil,if_neg e] at hm
   exact h.tcd m hm
theorem Inv.lfle (h:Inv D ep pg tb old fe fr lf tc):lf.length≤4096:=by
 have:=List.Nodup.length_le_of_subset h.lf.1 (l₂:=List.range D.n) fun s hs=>by
  obtain⟨-,i,hi, -⟩:=(h.lf.2 s).1 hs;exact List.mem_range.2 (h.rO i s hi)
 rw[List.length_range] at this;have:=h.sz;omega
theorem Inv.part (h:Inv D ep pg tb old fe fr lf tc) (hi:i< tb.length):i / (D.sz / 2)< pg.length:=by
 have h1:=h.lens;have h2:=h.row;rw[Nat.div_lt_iff_lt_mul (by omega),h1.2.1];rw[h1.2.2.1] at hi;unfold capN at hi;split at hi<;>omega
theorem Inv.pg64 (h:Inv D ep pg tb old fe fr lf tc):pg.length≤64:=by
 rw[h.lens.2.1];have:=tabs_le (D.sz / 2) (D.n - 2) D.sz 64 0;unfold tabN;omega
theorem Inv.tb4 (h:Inv D ep pg tb old fe fr lf tc):tb.length≤4096∧tb.length≤pg.length*(D.sz / 2):=by
 have h1:=h.lens;have h2:=h.sz;rw[h1.2.2.1,h1.2.1];unfold capN;split<;>omega
end
end
section
open Go.RowKit Go.Maps
def Gp.old (X:Gp):List Nat:=match X.op with | none=>X.table | some o=>o.was
def Gp.fr (X:Gp):Nat→Bool:=match X.op with | none=>fun _=>false | some o=>o.fresh
def Gp.lf (X:Gp):List Nat:=match X.op with | none=>[] | some o=>o.left
def Gp.tc (X:Gp):Nat→Bool:=match X.op with | none=>fun _=>false | some o=>o.touched
structure Gp.Ok (X:Gp):Prop where
 inv:Inv X.D X.epoch X.pages X.table X.old X.free X.fr X.lf X.tc
 row:X.row=X.D.sz / 2
 up:X.down=false∧X.D.down=false∧X.D.armed=false
structure Rp where
 n:Nat
 sz:Nat
 now:List Pk
 was:Option (List Pk)
 touched:Nat→Bool
 epoch:Nat
 d:Nat
def Gp.view (X:Gp):Rp:= { n:=X.D.n,sz:=X.D.sz,now:=X.table.map (pk X.D X.fr),was:=X.op.map fun o=>o.was.map (pk X.D fun _=>false),touched:=X.tc,epoch:=X.epoch,d:=X.D.id }
def Rp.base (x:Rp):List Pk:=x.was.getD x.now
def partUsed (row:Nat) (l:List Pk) (k:Nat):Bool:=(List.range row).any fun i=>(l.getD (k*row+i) .no).used
def tabsUsed (n sz:Nat) (l:List Pk):Nat:=(List.range (tabN n sz)).countP (partUsed (sz / 2) l)
def Rp.free (x:Rp):Int:=(x.n:Int) - 2 - tabsUsed x.n x.sz x.base - x.base.countP Pk.isOld - x.now.countP Pk.isNew
def Rp.room (x:Rp):Int:=x.free - cntN x.touched 64
def Rp.need (x:Rp) (k m:Nat):Nat:=m+if x.touched k then 0 else 1
def Rp.row (x:Rp):Nat:=x.sz / 2
def Rp.put (x:Rp) (i:Nat) (c:Pk):Rp:= { x with now:=x.now.set i c,touched:=setB x.touched (i / x.row) true }
def Rp.begun (x:Rp):Rp:= { x with was:=some x.now,touched:=fun _=>false }
theorem cntN_countP (f:Nat→Bool):∀n,cntN f n=(List.range n).countP f
 | 0=>rfl
 | n+1=>by
  rw[cntN_succ,List.range_succ,List.countP_append,cntN_countP f n];simp[List.countP_cons]
theorem nodup_filter {l:List Nat} {p:Nat→Bool} (h:∀i j s:Nat,l[i]? =some s→l[j]? =some s→p s=true→i=j):(l.filter p).Nodup:=by
 induction l with
 | nil=>simp
 | cons a t ih=>
  have ht:(t.filter p).Nodup:=ih fun i j s hi hj hp=>by have:=h (i+1) (j+1) s (by simpa using hi) (by simpa using hj) hp;omega
  rw[List.filter_cons];split
  ·rename_i hp
   refine List.nodup_cons.2 ⟨fun hm=>?_,ht⟩;obtain⟨hm, -⟩:=List.mem_filter.1 hm;obtain⟨k,hk,e⟩:=List.mem_iff_getElem.1 hm;have:=h 0 (k+1) a (by simp) (by simp[List.getElem?_eq_getElem hk,e]) hp;omega
  ·exact ht
theorem countP_range (l:List Nat) (p:Nat→Bool):l.countP p=(List.range l.length).countP fun k=>p (l.getD k 0):=by
 induction l with
 | nil=>rfl
 | cons a t ih=>
  rw[List.length_cons,List.range_succ_eq_map,List.countP_cons,List.countP_cons,List.countP_map,ih];rfl
theorem pk_used (D:Dk) (fr:Nat→Bool) (s:Nat):(pk D fr s).used=(s !=0):=by
 unfold pk;by_cases h0:s=0
 ·simp[h0,Pk.used]
 ·by_cases h1:s=1
  ·simp[h1,Pk.used]
  ·rw[if_neg h0,if_neg h1]
   cases fr s<;>simp[Pk.used,h0]
theorem pk_isOld (D:Dk) (s:Nat):(pk D (fun _=>false) s).isOld=decide (2≤s):=by
 unfold pk;by_cases h0:s=0
 ·simp[h0,Pk.isOld]
 ·by_cases h1:s=1
  ·simp[h1,Pk.isOld]
  ·rw[if_neg h0,if_neg h1];simp[Pk.isOld];omega
theorem pk_isNew (D:Dk) (fr:Nat→Bool) (s:Nat) (h:fr s=true→2≤s):(pk D fr s).isNew=fr s:=by
 unfold pk
 cases hf:fr s with
 | true=>have:=h hf;rw[if_neg (by omega),if_neg (by omega)];simp[Pk.isNew]
 | false=>split<;>(try split)<;>simp[Pk.isNew]
section
variable {D:Dk} {ep:Nat} {pg tb old lf:List Nat} {fe:List Bool} {fr tc:Nat→Bool}
theorem Inv.count (h:Inv D ep pg tb old fe fr lf tc):cnt fe+2+pg.countP (fun s=>s !=0)+old.countP (fun s=>decide (2≤s))+tb.countP fr=D.n:=by
 have hn:=h.sz.1
 have h1:((pg.filter fun s=>s !=0)++((old.filter fun s=>decide (2≤s))++tb.filter fr)).Perm ((List.range D.n).filter fun s=> !fe.getD s false && decide (2≤s)):=by
  refine(List.perm_ext_iff_of_nodup ?_ (List.nodup_range.filter _)).2 fun s=>?_
  ·refine List.nodup_append.2 ⟨nodup_filter fun i j s hi hj hp=>h.jP i j s hi hj (by simpa using hp),List.nodup_append.2 ⟨nodup_filter fun i j s hi hj hp=>h.jO i j s hi hj (by simpa using hp),nodup_filter fun i j s hi hj hp=>h.jT i j s hi hj (h.frr s hp).1,?_⟩,?_⟩
   ·intro a ha b hb e
    subst e;obtain⟨ha, -⟩:=List.mem_filter.1 ha;obtain⟨-,hb⟩:=List.mem_filter.1 hb;obtain⟨i,hi⟩:=List.mem_iff_getElem?.1 ha;exact(h.frr a hb).2.2.2.1 i hi
   ·intro a ha b hb e
    subst e;obtain⟨ha,h0⟩:=List.mem_filter.1 ha;obtain⟨k,hk⟩:=List.mem_iff_getElem?.1 ha;rcases List.mem_append.1 hb with hb | hb
    ·obtain⟨hb,h2⟩:=List.mem_filter.1 hb
     obtain⟨i,hi⟩:=List.mem_iff_getElem?.1 hb;have:=h.dis k i a hk hi;simp at h2
     omega
    ·obtain⟨-,hb⟩:=List.mem_filter.1 hb
     exact(h.frr a hb).2.2.1 k hk
  ·simp only[List.mem_append,List.mem_filter,List.mem_range,Bool.and_eq_true,Bool.not_eq_true',decide_eq_true_eq,bne_iff_ne,ne_eq]
   constructor
   ·rintro(⟨hm,h0⟩ | ⟨hm,h2⟩ | ⟨hm,hf⟩)
    ·obtain⟨k,hk⟩:=List.mem_iff_getElem?.1 hm
     obtain⟨e1,e2⟩:=h.rP k s hk h0;exact⟨e2,(h.acct s e2).2 (.inr (.inl ⟨k,hk⟩)),e1⟩
    ·obtain⟨k,hk⟩:=List.mem_iff_getElem?.1 hm
     have e2:=h.rO k s hk;exact⟨e2,(h.acct s e2).2 (.inr (.inr (.inl ⟨k,hk⟩))),h2⟩
    ·obtain⟨e1,e2, -⟩:=h.frr s hf
     exact⟨e2,(h.acct s e2).2 (.inr (.inr (.inr hf))),e1⟩
   ·rintro⟨e1,e2,e3⟩
    rcases(h.acct s e1).1 e2 with e | ⟨k,hk⟩ | ⟨k,hk⟩ | e
    ·omega
    ·exact .inl ⟨List.mem_iff_getElem?.2 ⟨k,hk⟩,by omega⟩
    ·exact .inr (.inl ⟨List.mem_iff_getElem?.2 ⟨k,hk⟩,e3⟩)
    ·obtain⟨i,hi⟩:=(h.frr s e).2.2.2.2
     exact .inr (.inr ⟨List.mem_iff_getElem?.2 ⟨i,hi⟩,e⟩)
 have h2:=h1.length_eq;simp only[List.length_append,←List.countP_eq_length_filter] at h2;have h3:cnt fe=(List.range D.n).countP fun s=>fe.getD s false:=by unfold cnt;rw[h.lens.1];exact cntN_countP _ _
 have h4:=List.length_eq_countP_add_countP (fun s=>fe.getD s false) (l:=List.range D.n)
 have h5:(List.range D.n).countP (fun a=>decide (¬fe.getD a false=true))=2+(List.range D.n).countP (fun s=> !fe.getD s false && decide (2≤s)):=by
  obtain⟨m,hm⟩:∃m,D.n=2+m:=⟨D.n - 2,by omega⟩;have e0:fe.getD 0 false=false:=(h.acct 0 (by omega)).2 (.inl (by omega));have e1:fe.getD 1 false=false:=(h.acct 1 (by omega)).2 (.inl (by omega));rw[hm,List.range_add,List.countP_append,List.countP_append,show List.range 2=[0,1] from rfl];simp only[List.countP_cons,List.countP_nil,e0,e1,List.countP_map]
  have:(List.range m).countP ((fun a=>decide (¬fe.getD a false=true))∘fun x=>2+x)=(List.range m).countP ((fun s=> !fe.getD s false && decide (2≤s))∘fun x=>2+x):=List.countP_congr fun k _=>by
   simp only[Function.comp]
   cases fe.getD (2+k) false<;>simp
  rw[this];simp
 rw[List.length_range] at h4;omega
end
theorem getD_map_pk (D:Dk) (fr:Nat→Bool) (l:List Nat) (i:Nat):(l.map (pk D fr)).getD i .no=pk D fr (l.getD i 0):=by
 rw[List.getD_eq_getElem?_getD,List.getD_eq_getElem?_getD,List.getElem?_map]
 cases l[i]? <;>simp[pk]
theorem Gp.base_eq (X:Gp):X.view.base=X.old.map (pk X.D fun _=>false):=by
 unfold Rp.base Gp.view Gp.old
 cases h:X.op with
 | none=>simp[Gp.fr,h]
 | some o=>simp
theorem Gp.Ok.free {X:Gp} (h:X.Ok):(cnt X.free:Int)=X.view.free:=by
 have hc:=h.inv.count
 have h1:X.pages.countP (fun s=>s !=0)=tabsUsed X.D.n X.D.sz (X.old.map (pk X.D fun _=>false)):=by
  unfold tabsUsed;rw[countP_range,h.inv.lens.2.1];refine List.countP_congr fun k hk=>?_;have hk':k< X.pages.length:=by rw[h.inv.lens.2.1];exact List.mem_range.1 hk
  have hp:X.pages[k]? =some (X.pages.getD k 0):=by rw[List.getD_eq_getElem?_getD,List.getElem?_eq_getElem hk'];rfl
  have hpu:partUsed (X.D.sz / 2) (X.old.map (pk X.D fun _=>false)) k=true↔∃i,i< X.D.sz / 2∧X.old.getD (k*(X.D.sz / 2)+i) 0≠0:=by
   unfold partUsed;simp only[List.any_eq_true,List.mem_range,getD_map_pk,pk_used,bne_iff_ne]
  rw[hpu];simp only[bne_iff_ne];constructor
  ·exact fun e=>h.inv.dur.tab1 k _ hp e
  ·rintro⟨i,hi,e⟩ e0
   rw[e0] at hp;exact e (h.inv.dur.tab0 k hp i hi)
 have h2:X.view.base.countP Pk.isOld=X.old.countP fun s=>decide (2≤s):=by
  rw[Gp.base_eq,List.countP_map];refine List.countP_congr fun s _=>?_;simp only[Function.comp,pk_isOld]
 have h3:X.view.now.countP Pk.isNew=X.table.countP X.fr:=by
  show(X.table.map (pk X.D X.fr)).countP Pk.isNew=_;rw[List.countP_map];refine List.countP_congr fun s _=>?_;simp only[Function.comp,pk_isNew X.D X.fr s fun e=>(h.inv.frr s e).1]
 have h4:X.view.n=X.D.n∧X.view.sz=X.D.sz:=⟨rfl,rfl⟩;unfold Rp.free;rw[h2,h3,Gp.base_eq,h4.1,h4.2,←h1];omega
theorem Gp.Ok.room {X:Gp} (h:X.Ok):X.room=X.view.room:=by
 have hf:=h.free;unfold Gp.room Rp.room;rw[←hf];show _=_ - (cntN X.tc 64:Int)
 cases hx:X.op with
 | none=>simp only[Gp.tc,hx];rw[show cntN (fun _=>false) 64=0 from cntN_false fun _ _=>rfl];simp
 | some o=>simp only[Gp.tc,hx]
theorem Gp.Ok.sz {X:Gp} (h:X.Ok):X.Sz:=⟨h.inv.lens.1,⟨h.row,h.inv.sz.2.2.1⟩,⟨by rw[h.row];exact h.inv.tb4.2,h.inv.tb4.1⟩,h.inv.pg64⟩
end
section
open Go.RowKit Go.Maps
theorem make_bytes (n:Nat) (w:World) (hn:n≤1000000):∃w',(Instr.makeSlice 49 (.int .i64 n) (.int .i64 n)).run prog w= .ok (.slice (some ⟨w.heap.size,0,none⟩) n n) w'∧w'.ownsRow w.heap.size 5 1 (.slice (some ⟨w.heap.size,0,none⟩) n n) n (bv (List.replicate n 0))∧Grew w w'∧w'.heap.size=w.heap.size+1:=by
 obtain⟨i0,hi0,hz0,hz1,hz2⟩:=info_parts u8Info;have hr:=run_makeSlice (P:=prog) w 49 5 i0 (.int .u8 0) underlying49 hi0 hz0 .i64 .i64 n n (by omega) (by omega) (by rw[hz1];simp;omega) (by rw[hz2];omega) (by omega)
 obtain⟨w3,hr3,hown3,hg3⟩:=run_make_full (P:=prog) w w.heap.size 49 5 i0 (.int .u8 0) 1 underlying49 hi0 hz0 hz1 .i64 .i64 n (by rw[hz2];omega) (by simp only[maxLen];omega) (Nat.le_refl _);rw[hr3] at hr;injection hr with hr1 hr2;refine⟨w3,hr3,?_,(Chg.refl NoF w).grown hg3 (fun j hj _=>by cases hj),by rw[hr2];simp⟩;have:=hown3
 rw[show(Value.int .u8 0).cells= #[.int .u8 0] from rfl,Nat.mul_one,toList_madeCells_one] at this;simpa [bv] using this
theorem rowInfo:(prog.info? 49).map (fun i=>(i.zero,i.size,i.bytes))=some (some (.slice none 0 0),1,24):=by kernel_rfl
structure NewJ (w wr:World) (d sz k:Nat) (A:Option Addr) (c M:Nat) (vs:List Value):Prop where
 blk:Blk wr d 120 #[.int .i64 sz,.slice A k c,.map (some M),.bool false,.int .i64 0,.bool false,.int .i64 0]
 row:wr.ownsRow w.heap.size 49 1 (.slice A k c) k vs
 map:IMap prog 3 wr M (fun _=>none) 0
 dat:∀i,i< k→∃v,vs[i]? =some v∧BRow wr (fun j=>w.heap.size≤j∧j< wr.heap.size) v (List.replicate sz 0)
 grew:Grew w wr
 new:w.heap.size≤d∧w.heap.size≤M∧M< wr.heap.size
theorem NewJ.more {w wr w3 W4 w5 w6:World} {d sz k c M g cap:Nat} {A:Option Addr} {vs:List Value} (h:NewJ w wr d sz k A c M vs) (hm:w3.ownsRow wr.heap.size 5 1 (.slice (some ⟨wr.heap.size,0,none⟩) sz sz) sz (bv (List.replicate sz 0))) (hg3:Grew wr w3) (hg34:Grew w3 W4) (hg4:Grew wr W4)
  (ho:w5.ownsRow w.heap.size 49 1 (.slice (some ⟨g,0,none⟩) (k+1) cap) (k+1) (vs++[.slice (some ⟨wr.heap.size,0,none⟩) sz sz])) (hg5:W4.grownBy w5 (Value.slice A k c).ownBlock) (hne:d≠g∧∀j,(Value.slice A k c).ownBlock=some j→j≠d)
  (hW:w5.setCell ⟨d,1,none⟩ (.slice (some ⟨g,0,none⟩) (k+1) cap)=w6):NewJ w w6 d sz (k+1) (some ⟨g,0,none⟩) cap M (vs++[.slice (some ⟨wr.heap.size,0,none⟩) sz sz]):=by
 have hc56:Chg (fun j=>j=d) w5 w6:=hW▸(Chg.refl (fun j=>j=d) w5).setCell (p:=⟨d,1,none⟩) (fun _=>rfl) _;have hc4:Chg (fun j=>some j=(Value.slice A k c).ownBlock∨j=d) W4 w6:=Chg.trans ((Chg.refl (fun j=>some j=(Value.slice A k c).ownBlock∨j=d) W4).grown hg5 fun j hj _=> .inl hj.symm) hc56 fun j _ e=> .inr e
 have hc:Chg (fun j=>some j=(Value.slice A k c).ownBlock∨j=d) wr w6:=hg4.then hc4
 have hnB:∀ {u:World},Grew wr u→∀j,(some j=(Value.slice A k c).ownBlock∨j=d)→NotB u j:=fun hg j hj=>by
  rcases hj with e | rfl
  ·exact own_notB (own_grew h.row hg) (by decide) e.symm
  ·exact(h.blk.grew hg).notB (by decide)
 have hb5:Blk w5 d 120 #[.int .i64 sz,.slice A k c,.map (some M),.bool false,.int .i64 0,.bool false,.int .i64 0]:=(h.blk.grew hg4).grown hg5 (fun e=>hne.2 _ e.symm rfl);have hsz:=h.grew.size;have hszc:=hc.size;have hvl:vs.length=k:=by have:=h.row.1;simpa using this
 refine⟨?_,?_,h.map.chg hc ?_,fun i hi=>?_,?_,h.new.1,h.new.2.1,Nat.lt_of_lt_of_le h.new.2.2 hszc⟩
 ·subst hW
  have:=hb5.put 1 (.slice (some ⟨g,0,none⟩) (k+1) cap);simpa using this
 ·exact own_chg ho hc56 fun j hj e=>by simp[Value.ownBlock] at hj;omega
 ·rintro(e | e)
  ·rcases h.row.2 with ⟨e1,_⟩ | ⟨g',cp,cr,e1,_,hb,_⟩
   ·rw[e1] at e;simp[Value.ownBlock] at e
   ·have:M=g':=by rw[e1] at e;simpa [Value.ownBlock] using e
    subst this;obtain⟨E,⟨es,cl,hm', -⟩, -⟩:=h.map;rw[hb] at hm'
    cases hm'
  ·exact imap_ne h.map h.blk e
 ·by_cases hik:i< k
  ·obtain⟨v,h1,h2⟩:=h.dat i hik
   exact⟨v,by rw[List.getElem?_append_left (by omega)];exact h1,(h2.past hc (hnB (Chg.refl _ _))).mono fun j hj=>⟨hj.1,by omega⟩⟩
  ·obtain rfl:i=k:=by omega
   refine⟨.slice (some ⟨wr.heap.size,0,none⟩) sz sz,by rw[List.getElem?_append_right (by omega),hvl];simp,?_,fun j hj=>?_⟩
   ·have h3:BRow w3 (fun _=>True) (.slice (some ⟨wr.heap.size,0,none⟩) sz sz) (List.replicate sz 0):=⟨by have:=own_base hm (Nat.zero_le _);simpa using this,fun _ _=>trivial⟩
    exact(h3.past (hg34.then hc4) (hnB hg3)).1
   ·have:j=wr.heap.size:=by simp[Value.ownBlock] at hj;omega
    subst this;have:=(hm.lt wr.heap.size rfl).2;have:=hg34.size;have:=hc4.size;exact⟨hsz,by omega⟩
 ·refine Chg.mono (h.grew.then hc) fun i hi e=>?_
  rcases e with e | e
  ·have:=(h.row.lt i e.symm).1;omega
  ·have:=h.new.1;omega
theorem dnew_any (n sz:Nat) (w:World) (h1:1≤n) (h2:n≤4096) (h3:16≤sz) (h4:sz≤4096) :
  Calls prog 34 #[.int .i64 n,.int .i64 sz] w fun e w'=>∃d F,e= .returned (.pointer (some ⟨d,0,none⟩))∧DS w' d F ⟨n,sz,fun _=>List.replicate sz 0,fun _=>none,false,0,false,0,d⟩∧Grew w w'∧∀j,F j→w.heap.size≤j:=by
 obtain⟨i0,hi0,hz0,hz1,hz2⟩:=info_parts rowInfo;have qm:∀u:World,(Instr.makeMap 118 none).run prog u= .ok (.map (some u.heap.size)) (u.alloc (.map #[] 0)):=fun u=>run_makeMap _ u;have a1:decide ((n:Int)< 1)=false:=decide_eq_false (by omega);have a2:decide ((4096:Int)< n)=false:=decide_eq_false (by omega)
 have a3:decide ((sz:Int)< 16)=false:=decide_eq_false (by omega);have a4:decide ((4096:Int)< sz)=false:=decide_eq_false (by omega);obtain⟨d,hd⟩:∃d,w.heap.size+1=d:=⟨_,rfl⟩;obtain⟨W1,hW1⟩:∃W1,(w.alloc (.map #[] 0)).alloc (.cells #[.int .i64 sz,.slice none 0 0,.map (some w.heap.size),.bool false,.int .i64 0,.bool false,.int .i64 0] 120)=W1:=⟨_,rfl⟩
 have HJ0:=yH (show NewJ w W1 d sz 0 none 0 w.heap.size [] from hW1▸hd▸⟨by have:=Blk.new (w.alloc (.map #[] 0)) 120 #[.int .i64 sz,.slice none 0 0,.map (some w.heap.size),.bool false,.int .i64 0,.bool false,.int .i64 0];simpa using this,World.ownsRow_nil _ _ _ _,(IMap.made _ _ _).grew ((Chg.refl _ _).alloc _),fun i hi=>by omega,((Chg.refl _ _).alloc _).alloc _,by simp;omega⟩)
 have HW:=yH (yA hW1 hd);clear hW1 hd;go_enter func34,ntmps34
 go_wp2
 rw[HW.out.1,HW.out.2];go_loopw [25] (fun i wr=>∃ (k:Nat) (A:Option Addr) (c M:Nat) (vs:List Value),k≤n∧i= .int .i64 k∧NewJ w wr d sz k A c M vs) (fun i _=>n - (intOf i).toNat)
 case atStart=>exact⟨0,none,0,_,[],Nat.zero_le _,rfl,HJ0.out⟩
 case round=>
  obtain⟨k,A,c,M,vs,hk,rfl,hJ⟩:=hrel;have HN:=yH hJ;obtain⟨c0,f0,s0⟩:=hJ.blk.facts;clear hJ;by_cases hlt:k< n
  ·have hvl:vs.length=k:=by have:=HN.out.row.1;simpa using this
   go_wp2
   obtain⟨w3,hr3,ho3,hg3,hz3⟩:=make_bytes sz wr.drew (by omega);have HM:=yH (yA ho3 (show Grew wr w3 from Grew.trans ((Chg.refl NoF wr).drew) hg3));have hz3':w3.heap.size=wr.heap.size+1:=by simpa using hz3
   have hr3':(Instr.makeSlice 49 (.int .i64 sz) (.int .i64 sz)).run prog wr.drew= .ok (.slice (some ⟨wr.heap.size,0,none⟩) sz sz) w3:=by simpa using hr3
   have hnc:(w3.alloc (.cells #[.slice (some ⟨wr.heap.size,0,none⟩) sz sz] 49)).cell? ⟨wr.heap.size+1,0+0,none⟩=some (.slice (some ⟨wr.heap.size,0,none⟩) sz sz):=by rw[←hz3'];exact((Blk.new w3 49 #[.slice (some ⟨wr.heap.size,0,none⟩) sz sz]).cell 0).trans rfl
   have HG34:=yH (show Grew wr (w3.alloc (.cells #[.slice (some ⟨wr.heap.size,0,none⟩) sz sz] 49)) from HM.out.2.alloc _);have HS34:=yH (show Grew w3 (w3.alloc (.cells #[.slice (some ⟨wr.heap.size,0,none⟩) sz sz] 49)) from(Chg.refl _ _).alloc _);have HOw:=yH (own_grew HN.out.row HG34.out);have c01:=c0 1
   simp only[List.getElem?_toArray,List.getElem?_cons_zero,List.getElem?_cons_succ] at c01;have c31:=(HM.out.2.cell (p:=⟨d,1,none⟩) s0 id).trans c01;have s3:=Nat.lt_of_lt_of_le s0 HM.out.2.size;clear ho3 hg3 hr3 hz3 c0 f0;refine wp_region_held_drew (S:=fun _=>True) (by kernel_rfl) trivial (fun _=>?_);refine Todo.out (is:=[0,1,2,3,5]) ?_
   repeat
    refine tkH (v:=?_) rfl (Or.inl ⟨by rfl,?_⟩) trivial ?_;rotate_left
    ·(intro w hSw;(try dsimp only at hSw);go_simp)<;>with_reducible rfl
    (try simp only[Act.put,lY])
   refine Todo.fin ?_;refine wpAnyH_ready (rs:=[4,6]) (by kernel_rfl) (by simp) ?_;refine(AllReadyH.cons rfl (fun K hK=>?_) (AllReadyH.cons rfl (fun K hK=>?_) AllReadyH.nil))
   case' _=>
    go_simp;refine hK.out _ _ trivial (fun _=>?_);clear hK K;(try simp only[Act.put,lY])
    refine wpAnyH_ready (rs:=[6]) (by kernel_rfl) (by simp) ?_;refine(AllReadyH.cons rfl (fun K hK=>?_) AllReadyH.nil);go_simp;refine hK.out _ _ trivial (fun _=>?_);clear hK K;(try simp only[Act.put,lY])
    refine wpAnyH_ready (rs:=[7]) (by kernel_rfl) (by simp) ?_
   rotate_left
   case' _=>
    go_simp;refine hK.out _ _ trivial (fun _=>?_);clear hK K;(try simp only[Act.put,lY])
    refine wpAnyH_ready (rs:=[4,7]) (by kernel_rfl) (by simp) ?_;refine(AllReadyH.cons rfl (fun K hK=>?_) (AllReadyH.cons rfl (fun K hK=>?_) AllReadyH.nil))
    case' _=>
     go_simp;refine hK.out _ _ trivial (fun _=>?_);clear hK K;(try simp only[Act.put,lY])
     refine wpAnyH_ready (rs:=[7]) (by kernel_rfl) (by simp) ?_
    rotate_left
    case' _=>
     go_simp;refine hK.out _ _ trivial (fun _=>?_);clear hK K;(try simp only[Act.put,lY])
     refine wpAnyH_ready (rs:=[4]) (by kernel_rfl) (by simp) ?_
    rotate_left
   rotate_left 2
   all_goals
    refine(AllReadyH.cons rfl (fun K hK=>?_) AllReadyH.nil);go_simp;refine hK.out _ _ trivial (fun _=>?_);clear hK K;(try simp only[Act.put,lY])
    refine wpAnyH_ready (rs:=[8]) (by kernel_rfl) (by simp) ?_;refine(AllReadyH.cons rfl (fun K hK=>?_) AllReadyH.nil)
    refine step_append_lies _ (by rfl) _ _ _ (by rfl) w.heap.size 49 i0 _ 1 24 underlying117 hi0 hz0 hz1 hz2 rfl (by omega) (.slice A k c) k vs (by rfl) HOw.out ⟨wr.heap.size+1,0,none⟩ 1 1 [.slice (some ⟨wr.heap.size,0,none⟩) sz sz] (by rfl) (by rfl) (by intro j u hu;cases j with | zero=>rw[Addr.add_lit];cases hu;exact hnc | succ j=>simp at hu) (by simp[Value.oneCell']) (by omega) (by simp only[maxLen];omega) (by omega) (by have:=HN.out.grew.size;simp[hz3'];omega) (wr.heap.size+1+1) (by simp[hz3']) ?_
    intro g cap w5 ho5 hg5 hlie hlt5
    have hne:d≠g∧∀j,(Value.slice A k c).ownBlock=some j→j≠d:=by
     refine⟨fun e=>?_,fun j hj e=>own_blk_ne (own_grew HN.out.row HG34.out) (HN.out.blk.grew HG34.out) (by decide) (e▸hj)⟩;rcases hlie with h | h
     ·exact own_blk_ne (own_grew HN.out.row HG34.out) (HN.out.blk.grew HG34.out) (by decide) (e▸h)
     ·have:=HN.out.blk.lt;omega
    have HO5:=yH (yA3 ho5 hg5 hne);have HB5:=yH (show Blk w5 d 120 #[.int .i64 sz,.slice A k c,.map (some M),.bool false,.int .i64 0,.bool false,.int .i64 0] from(HN.out.blk.grew HG34.out).grown hg5 (fun e=>hne.2 _ e.symm rfl));have f5:=HB5.out.frozen 1;have c5:=HB5.out.cell 1;have s5:=HB5.out.lt;clear ho5 hg5 hlie hne;refine hK.out _ _ trivial (fun _=>?_);clear hK K
    (try simp only[Act.put,lY])
    refine Todo.out (is:=[9,10]) ?_
    repeat
     refine tkH (v:=?_) rfl (Or.inl ⟨by rfl,?_⟩) trivial ?_;rotate_left
     ·(intro w hSw;(try dsimp only at hSw);go_simp)<;>with_reducible rfl
     (try simp only[Act.put,lY])
    refine Todo.fin ?_;refine rdH (i:=11) (by kernel_rfl) rfl fun K hK=>?_;go_simp;refine hK.out _ _ trivial (fun _=>?_);clear hK K;(try simp only[Act.put,lY])
    refine wpAnyH_done (by kernel_rfl) ?_ _;go_wp2
    exact⟨⟨k+1,_,cap,M,_,by omega,by simp,HN.out.more HM.out.1 HM.out.2 HS34.out HG34.out HO5.out.1 HO5.out.2.1 HO5.out.2.2 rfl⟩,by simp[intOf];omega⟩
  ·obtain rfl:k=n:=by omega
   go_wp2
   go_ret
   have hN:=HN.out;refine⟨d,fun j=>w.heap.size≤j∧j< wr.heap.size,rfl,⟨⟨A,c,M,0,vs,fun _=>none,hN.blk,own_base hN.row (Nat.zero_le _),hN.map,fun i hi=>?_,fun _ _=>rfl,(fun i bs h=>(by cases h)),⟨⟨hN.new.1,hN.blk.lt⟩,⟨hN.new.2.1,hN.new.2.2⟩,fun a ha=>?_⟩,⟨h1,h2,h3,h4,Nat.zero_le _⟩,rfl⟩,fun j hj=>hj.2⟩,hN.grew,fun j hj=>hj.1⟩
   ·obtain⟨v,g1,g2⟩:=hN.dat i hi
    exact⟨v,g1,g2,by simp⟩
   ·subst ha
    obtain⟨g,rfl,hg⟩:=own_some hN.row;exact⟨(hN.row.lt g rfl).1,hg⟩
end
section
open Go.RowKit Go.Maps
theorem gwrite_full (p i s:Nat) (nb:Nat) (Ab:Option Addr) (cb:Nat) (F:Nat→Prop) (X:Gp) (o:Cg) (w:World) (h:GS w p F X) (hr:X.rdy=0) (hx:X.op=some o) (hz:X.Sz) (hi:X.table[i]? =some s) (hs:s≠0) (hf:o.fresh s=false) (hsn:s< 4096) (hn:X.D.n≤4096) (hm:X.room< (o.more (i / X.row) 1:Nat)) (hb:nb=X.D.sz) :
  Calls prog 21 #[.pointer (some ⟨p,0,none⟩),.int .i64 i,.slice Ab nb cb] w fun e' w'=>e'= .returned (.int .i64 21)∧Grew w w':=by
 have hrd:=gready_any p F X w h;rw[hr] at hrd;have hus:=gused_in p i s F X w h (by have:=hz.tab.2;omega) hi;rw[show(s !=0)=true from by simpa using hs] at hus
 have hsz:=gsize_any p F X w h;have hil:i< X.table.length:=(List.getElem?_eq_some_iff.1 hi).1;obtain⟨k,hk⟩:∃k,i / X.row=k:=⟨_,rfl⟩;have HFL:=yH h;obtain⟨L,d,b,A,ca,vp,vt,vo,h,hF⟩:=h;obtain⟨c0,f0,s0⟩:=h.blk.facts;have ho:=h.opn;rw[hx] at ho;obtain⟨c,vw,M1,s1,vl,M2,s2,rfl,hi2⟩:=ho;obtain⟨g,ct,rfl,hgl,hlg,hce,hfe⟩:=h.entry hi
 have hdz:=h.dsk.sml;have htf:=fun u (hu:Grew w u)=>gtouch_full p i k 1 F X o u (HFL.out.grew hu) hx (by have:=hz.free;omega) (by have:=hz.row;omega) hk (by have:=hz.tab.2;omega) (by omega) (by rw[←hk];exact hm);have u1:(0:Int)≤(i:Int):=by omega
 have u2:(i:Int)< (X.table.length:Int):=by omega
 have hlk:(Instr.lookup 103 (.map (some M1)) (.int .i64 s) false).run prog w.drew= .ok (.bool false) w.drew:=by
  have:=(hi2.fr.grew ((Chg.refl _ w).drew)).look (t:=103) kInt underlying3 underlying103 (zBool w.drew) (i:=(s:Int)) (wfInt (by omega) (by omega));rwa[mB_getD,hf] at this
 have hp4:w.drew.cell? ⟨p,4,none⟩=some (.slice (some ⟨g,0,none⟩) X.table.length ct):=(h.blk.drew).cell 4;have hp6:w.drew.cell? ⟨p,6,none⟩=some (.pointer (some ⟨c,0,none⟩)):=(h.blk.drew).cell 6;have hc1:w.drew.cell? ⟨c,1,none⟩=some (.map (some M1)):=(hi2.blk.drew).cell 1;have hgi:w.drew.cell? ⟨g,i,none⟩=some (.int .i64 s):=hce
 have e3:((nb:Int) !=(X.D.sz:Int))=false:=by simp[hb]
 have H:=yH (yA4 hrd hus hsz htf);clear h hr hrd hus hsz hx hz hi hs hf hi2 htf hF c0 f0 hce hm hk hb;go_enter func21,ntmps21
 go_wp2_with (first
  | (go_at_call 54;(refine H.out.1.mono ?_);rintro e w1 ⟨rfl,rfl⟩)
  | (go_at_call 57;(refine H.out.2.1.mono ?_);rintro e w1 ⟨rfl,rfl⟩)
  | (go_at_call 58;(refine H.out.2.2.1.mono ?_);rintro e w1 ⟨rfl,rfl⟩))
 refine wp_region_held_drew (S:=fun w'=>w'.cell? ⟨p,4,none⟩=some (.slice (some ⟨g,0,none⟩) X.table.length ct)∧w'.cell? ⟨p,6,none⟩=some (.pointer (some ⟨c,0,none⟩))∧w'.cell? ⟨c,1,none⟩=some (.map (some M1))∧w'.cell? ⟨g,i,none⟩=some (.int .i64 s)∧(Instr.lookup 103 (.map (some M1)) (.int .i64 s) false).run prog w'= .ok (.bool false) w') (by kernel_rfl) ⟨hp4,hp6,hc1,hgi,hlk⟩ (fun hHeld=>?_)
 refine Todo.out (is:=[0,1,2,3,4,5,6,7,8,9,10,11,12,13,14]) ?_
 repeat
  refine tkH (v:=?_) rfl (Or.inl ⟨by rfl,?_⟩) hHeld ?_;rotate_left
  ·(intro w hSw;(try dsimp only at hSw);go_simp)<;>with_reducible rfl
  (try simp only[Act.put,lZ])
 refine Todo.fin ?_;refine rdH (i:=15) (by kernel_rfl) rfl fun K hK=>?_;go_simp;refine hK.out _ _ hHeld (fun _=>?_);clear hK K;(try simp only[Act.put,lZ])
 refine wpAnyH_done (by kernel_rfl) ?_ _;clear hHeld hlk hp4 hp6 hc1 hgi hgl hlg hfe s0;go_wp2_with fail
 refine(H.out.2.2.2 _ ((Chg.refl _ _).drew)).mono ?_;rintro e w1 ⟨rfl,hg1⟩;have HG1:=yH (Grew.trans ((Chg.refl NoF w).drew) hg1);clear hg1;go_wp2_with fail
 go_ret
 exact⟨rfl,HG1.out⟩
theorem gread_none (p:Nat) (i:Int) (F:Nat→Prop) (X:Gp) (w:World) (h:GS w p F X) (hd:X.down=false) (hl:X.table.length≤4096) (hu:X.usedB i=false) :
  Calls prog 84 #[.pointer (some ⟨p,0,none⟩),.int .i64 i] w fun e' w'=>e'= .returned (.tuple #[.slice none 0 0,.int .i64 14])∧w=w':=by
 have hus:=gused_any p i F X w h (by omega);rw[hu] at hus;obtain⟨L,d,b,A,ca,vp,vt,vo,h,hF⟩:=h;obtain⟨c0,f0,s0⟩:=h.blk.facts;rw[hd] at c0;have H:=yH hus;clear h hF hd hu hus;go_enter func84,ntmps84
 go_wp2_with (go_at_call 57;(refine H.out.mono ?_);rintro e w1 ⟨rfl,rfl⟩)
 go_ret2
 exact⟨rfl,rfl⟩
theorem gread_one (p i:Nat) (F:Nat→Prop) (X:Gp) (w:World) (h:GS w p F X) (hd:X.down=false) (hl:X.table.length≤4096) (hi:X.table[i]? =some 1) :
  Calls prog 84 #[.pointer (some ⟨p,0,none⟩),.int .i64 i] w fun e' w'=>OwnOut w w' 5 1 X.D.sz (bv (List.replicate X.D.sz 0)) (fun A c=> .tuple #[.slice A X.D.sz c,.int .i64 0]) e':=by
 have hus:=gused_in p i 1 F X w h (by omega) hi;have hsz:=gsize_any p F X w h;obtain⟨L,d,b,A,ca,vp,vt,vo,h,hF⟩:=h;obtain⟨c0,f0,s0⟩:=h.blk.facts;rw[hd] at c0;obtain⟨g,ct,rfl,hgl,hlg,hce,hfe⟩:=h.entry hi;have hil:i< X.table.length:=(List.getElem?_eq_some_iff.1 hi).1;have hdz:=h.dsk.sml;have u1:(0:Int)≤(i:Int):=by omega
 have u2:(i:Int)< (X.table.length:Int):=by omega
 obtain⟨w3,hr3,ho3,hg3,hz3⟩:=make_bytes X.D.sz w (by omega);have H:=yH (yA4 hus hsz ho3 hg3);clear h hF hd hus hsz ho3 hg3 hz3 hi;go_enter func84,ntmps84
 go_wp2_with (first
  | (go_at_call 57;(refine H.out.1.mono ?_);rintro e w1 ⟨rfl,rfl⟩)
  | (go_at_call 58;(refine H.out.2.1.mono ?_);rintro e w1 ⟨rfl,rfl⟩))
 go_ret2
 exact OwnOut.mk _ _ rfl H.out.2.2.1 H.out.2.2.2
def ReadOut (w w':World) (p:Nat) (F:Nat→Prop) (X:Gp) (n:Nat) (xs:List Value) (e:Ending):Prop:=
 ∃A c,e= .returned (.tuple #[.slice A n c,.int .i64 0])∧w'.ownsRow w.heap.size 5 1 (.slice A n c) n xs∧GS w' p F X∧Chg F w w'∧∀a,A=some a→¬F a.block
theorem gread_sec (p i s:Nat) (F:Nat→Prop) (X:Gp) (w:World) (h:GS w p F X) (hd:X.down=false) (hdd:X.D.down=false) (hl:X.table.length≤4096) (hi:X.table[i]? =some s) (hs:2≤s) (hsn:s< X.D.n) :
  Calls prog 84 #[.pointer (some ⟨p,0,none⟩),.int .i64 i] w fun e' w'=>ReadOut w w' p F X X.D.sz (bv (X.D.rd s)) e':=by
 have HGS:=yH h;have hus:=gused_in p i s F X w h (by omega) hi;rw[show(s !=0)=true from by simp;omega] at hus;obtain⟨L,d,b,A,ca,vp,vt,vo,h,hF⟩:=h;obtain⟨c0,f0,s0⟩:=h.blk.facts;rw[hd] at c0;obtain⟨g,ct,rfl,hgl,hlg,hce,hfe⟩:=h.entry hi;have hil:i< X.table.length:=(List.getElem?_eq_some_iff.1 hi).1;have u1:(0:Int)≤(i:Int):=by omega
 have u2:(i:Int)< (X.table.length:Int):=by omega
 have e1:((s:Int)==1)=false:=by simp;omega
 have hp0:w.drew.cell? ⟨p,0,none⟩=some (.pointer (some ⟨d,0,none⟩)):=(h.blk.drew).cell 0;have hp4:w.drew.cell? ⟨p,4,none⟩=some (.slice (some ⟨g,0,none⟩) X.table.length ct):=(h.blk.drew).cell 4;have hgi:w.drew.cell? ⟨g,i,none⟩=some (.int .i64 s):=hce;have hdz:=h.dsk.sml
 have hrd:Calls prog 113 #[.pointer (some ⟨d,0,none⟩),.int .i64 (s:Int)] w.drew fun e w2=>OwnOut w.drew w2 5 1 X.D.sz (bv (X.D.rd s)) (fun A c=> .tuple #[.slice A X.D.sz c,.int .i64 0]) e:=dread_ok d s _ X.D _ (h.dsk.grew ((Chg.refl _ _).drew)) hdd (by omega) (by omega);have H:=yH (yA5 hus hrd h hF hd);clear h hF hd hus hrd hi;go_enter func84,ntmps84
 go_wp2_with (go_at_call 57;(refine H.out.1.mono ?_);rintro e w1 ⟨rfl,rfl⟩)
 refine wp_region_held_drew (S:=fun w'=>w'.cell? ⟨p,0,none⟩=some (.pointer (some ⟨d,0,none⟩))∧w'.cell? ⟨p,4,none⟩=some (.slice (some ⟨g,0,none⟩) X.table.length ct)∧w'.cell? ⟨g,i,none⟩=some (.int .i64 s)) (by kernel_rfl) ⟨hp0,hp4,hgi⟩ (fun hHeld=>?_);refine Todo.out (is:=[0,1,2,3,4,5,6,7,8,9,10]) ?_
 repeat
  refine tkH (v:=?_) rfl (Or.inl ⟨by rfl,?_⟩) hHeld ?_;rotate_left
  ·(intro w hSw;(try dsimp only at hSw);go_simp)<;>with_reducible rfl
  (try simp only[Act.put,lZ])
 refine Todo.fin ?_;refine rdH (i:=11) (by kernel_rfl) rfl fun K hK=>?_;go_simp;refine H.out.2.1.mono ?_;rintro e w3 ⟨A3,c3,rfl,ho3,hg3⟩
 have hHeld3:w3.cell? ⟨p,0,none⟩=some (.pointer (some ⟨d,0,none⟩))∧w3.cell? ⟨p,4,none⟩=some (.slice (some ⟨g,0,none⟩) X.table.length ct)∧w3.cell? ⟨g,i,none⟩=some (.int .i64 s):=
  ⟨(hg3.cell (p:=⟨p,0,none⟩) s0 id).trans hp0,(hg3.cell (p:=⟨p,4,none⟩) s0 id).trans hp4,(hg3.cell (p:=⟨g,i,none⟩) hgl id).trans hgi⟩
 have HR:=yH (yA ho3 (Grew.trans ((Chg.refl NoF w).drew) hg3));clear ho3 hg3;refine hK.out _ _ hHeld3 (fun _=>?_);clear hK K;(try simp only[Act.put,lZ])
 refine Todo.out (is:=[12,13,14,15]) ?_
 repeat
  refine tkH (v:=?_) rfl (Or.inl ⟨by rfl,?_⟩) hHeld3 ?_;rotate_left
  ·(intro w hSw;(try dsimp only at hSw);go_simp)<;>with_reducible rfl
  (try simp only[Act.put,lZ])
 refine Todo.fin ?_;refine rdH (i:=16) (by kernel_rfl) rfl fun K hK=>?_;go_simp;refine hK.out _ _ hHeld3 (fun _=>?_);clear hK K;(try simp only[Act.put,lZ])
 refine wpAnyH_done (by kernel_rfl) ?_ _;clear hHeld hHeld3 hp0 hp4 hgi c0 f0 s0 hgl hce hfe;go_wp2_with fail
 refine(gnote_at p 0 _ _ (H.out.2.2.1.grew HR.out.2).blk (by show _=some (Value.bool false);rw[← (yP4 H.out)];rfl) rfl).mono ?_;rintro e w4 ⟨rfl,hw4⟩;have HW4:=yH hw4;clear hw4;go_wp2
 go_ret2
 have hG:=H.out.2.2.1.grew HR.out.2;have hfl:=hG.flag false;rw[HW4.out] at hfl;have hc:Chg (fun j=>L j=1) w w4:=Grew.then HR.out.2 hfl.2.chg;refine⟨A3,c3,rfl,?_,⟨L,d,b,A,ca,vp,.slice (some ⟨g,0,none⟩) X.table.length ct,vo,?_,H.out.2.2.2.1⟩,hc.mono fun j _ e=>(H.out.2.2.2.1 j).2 (by omega),fun a ha hf=>?_⟩
 ·refine own_chg HR.out.1 hfl.2.chg fun j hj e=>?_
  have h1:=(HR.out.1.lt j hj).1;have h2:=H.out.2.2.1.lt j (by omega);have h1':w.heap.size≤j:=h1;omega
 ·have e:({ X with down:=false }:Gp)=X:=by rw[← (yP4 H.out)]
  rw[←e];exact hfl.1
 ·subst ha
  have h1:=(HR.out.1.lt a.block rfl).1;have h2:=H.out.2.2.1.lt a.block ((H.out.2.2.2.1 _).1 hf);have h1':w.heap.size≤a.block:=h1;omega
end
section
open Go.RowKit Go.Maps
theorem setB_same {f:Nat→Bool} {k:Nat} (h:f k=true):setB f k true=f:=by
 funext j
 unfold setB;by_cases e:j=k
 ·subst e;rw[if_pos rfl,h]
 ·rw[if_neg e]
section
variable {X:Gp} {o:Cg} {i j s:Nat} {bs:List Int}
theorem Gp.Ok.tcroom (h:X.Ok) (hx:X.op=some o) {k m:Nat} (hk:k< X.pages.length) (hm:(o.more k m:Nat)≤X.room):cntN (setB X.tc k true) 64+m≤cnt X.free:=by
 have e:X.tc=o.touched:=by simp only[Gp.tc,hx]
 have hr:X.room=(cnt X.free:Int) - (cntN o.touched 64:Int):=by simp only[Gp.room,hx]
 rw[hr] at hm;rw[e];unfold Cg.more at hm
 cases ht:o.touched k with
 | true=>rw[ht] at hm;rw[setB_same ht];simp at hm;omega
 | false=>
  rw[ht] at hm;rw[cntN_yes _ (by have:=h.inv.pg64;omega) ht];simp at hm
  omega
theorem Gp.Ok.tch (h:X.Ok) (hx:X.op=some o) (hi:i< X.table.length) {m:Nat} (hm:(o.more (i / X.row) m:Nat)≤X.room) :
  Inv X.D X.epoch X.pages X.table o.was X.free o.fresh o.left (setB o.touched (i / (X.D.sz / 2)) true)∧cntN (setB o.touched (i / (X.D.sz / 2)) true) 64+m≤cnt X.free:=by
 have hk:=h.inv.part hi;rw[h.row] at hm;have hr:=h.tcroom hx hk hm;have hv:=h.inv.tch hk (by omega);simp only[Gp.old,Gp.fr,Gp.lf,Gp.tc,hx] at hv hr;exact⟨hv,hr⟩
theorem Gp.view_was (hx:X.op=some o):X.view.was=some (o.was.map (pk X.D fun _=>false)):=by simp[Gp.view,hx]
theorem Gp.Ok.alloc (h:X.Ok) (hx:X.op=some o) (hi:X.table[i]? =some 0) (hm:(o.more (i / X.row) 0:Nat)≤X.room):(X.alloc o i).Ok∧(X.alloc o i).view=X.view.put i .zero:=by
 obtain⟨h1, -⟩:=h.tch hx (List.getElem?_eq_some_iff.1 hi).1 hm;have h2:=h1.zero (v:=1) hi (by omega) (by omega) (by simp[setB]);have hr:=h.row;refine⟨⟨?_,h.row,h.up⟩,?_⟩
 ·rw[←h.row] at h2
  exact h2
 ·unfold Gp.view Rp.put Gp.alloc Gp.touch
  simp only[Gp.fr,Gp.tc,hx,Option.map_some,Rp.row];rw[List.map_set,show pk X.D o.fresh 1= .zero from rfl,hr]
theorem pk_wr {D:Dk} {fr fr':Nat→Bool} {j s:Nat} {bs:List Int} (hs:s≠j) (hf:fr' s=fr s):pk (D.wr j bs) fr' s=pk D fr s:=by
 unfold pk;rw[Dk.wr_rd,if_neg hs,hf]
theorem Gp.Ok.fill (h:X.Ok) (hx:X.op=some o) (hi:X.table[i]? =some s) (hf:o.fresh s=false) (hj:X.free.getD j false=true) (hm:(o.more (i / X.row) 1:Nat)≤X.room) (hb:∀x∈bs,0≤x∧x≤255) :
  (X.fill o i s j bs).Ok∧(X.fill o i s j bs).view=X.view.put i (.new bs):=by
 obtain⟨h1,h3⟩:=h.tch hx (List.getElem?_eq_some_iff.1 hi).1 hm;obtain⟨j1,j2,j3,j4,j5,j6⟩:=h1.free hj;have h2:=(h1.write ⟨j2,j1,j3,j4⟩ hb).fill hi hf hj (by simp[setB,Dk.wr]) h3;refine⟨⟨?_,h.row,h.up⟩,?_⟩
 ·have e:(X.fill o i s j bs).tc=setB o.touched (i / (X.D.sz / 2)) true:=by simp only[Gp.fill,Gp.tc,Cg.fill,h.row]
  rw[e];exact h2
 ·unfold Gp.view Rp.put Gp.fill
  simp only[Gp.fr,Gp.tc,hx,Option.map_some,Rp.row,Cg.fill]
  have e1:X.table.map (pk (X.D.wr j bs) (setB o.fresh j true))=X.table.map (pk X.D o.fresh):=List.map_congr_left fun s hs=>by
   obtain⟨k,hk⟩:=List.mem_iff_getElem?.1 hs;have hsj:s≠j:=fun e=>j6 k (e▸hk);exact pk_wr hsj (by simp[setB,hsj])
  have e2:o.was.map (pk (X.D.wr j bs) fun _=>false)=o.was.map (pk X.D fun _=>false):=List.map_congr_left fun s hs=>by
   obtain⟨k,hk⟩:=List.mem_iff_getElem?.1 hs;exact pk_wr (fun e=>j4 k (e▸hk)) rfl
  have e3:pk (X.D.wr j bs) (setB o.fresh j true) j= .new bs:=by
   unfold pk;rw[Dk.wr_rd,if_pos rfl,if_neg (by omega),if_neg (by omega)];simp[setB]
  rw[List.map_set,e1,e2,e3,h.row];rfl
theorem Gp.Ok.put (h:X.Ok) (hx:X.op=some o) (hi:X.table[i]? =some s) (hf:o.fresh s=true) (hb:∀x∈bs,0≤x∧x≤255):(X.put s bs).Ok∧(X.put s bs).view=X.view.put i (.new bs):=by
 have hv:=h.inv;simp only[Gp.old,Gp.fr,Gp.lf,Gp.tc,hx] at hv;obtain⟨j1,j2,j3,j4, -⟩:=hv.frr s hf;have h2:=hv.write ⟨j2,j1,j3,j4⟩ hb;have hil:i< X.table.length:=(List.getElem?_eq_some_iff.1 hi).1;have ht:o.touched (i / (X.D.sz / 2))=true:=hv.tcd i fun e=>j4 i (e▸hi);refine⟨⟨?_,h.row,h.up⟩,?_⟩
 ·simp only[Gp.put,Gp.old,Gp.fr,Gp.lf,Gp.tc,hx]
  exact h2
 ·unfold Gp.view Rp.put Gp.put
  simp only[Gp.fr,Gp.tc,hx,Option.map_some,Rp.row];rw[setB_same ht]
  have e2:o.was.map (pk (X.D.wr s bs) fun _=>false)=o.was.map (pk X.D fun _=>false):=List.map_congr_left fun q hq=>by
   obtain⟨k,hk⟩:=List.mem_iff_getElem?.1 hq;exact pk_wr (fun e=>j4 k (e▸hk)) rfl
  have e1:X.table.map (pk (X.D.wr s bs) o.fresh)=(X.table.map (pk X.D o.fresh)).set i (.new bs):=by
   apply List.ext_getElem?
   intro k;rw[set_at (by simpa using hil),List.getElem?_map,List.getElem?_map]
   by_cases e:k=i
   ·subst e
    rw[if_pos rfl,hi];simp only[Option.map_some,Option.some.injEq];unfold pk;rw[Dk.wr_rd,if_pos rfl,if_neg (by omega),if_neg (by omega),if_pos hf]
   ·rw[if_neg e]
    cases hk:X.table[k]? with
    | none=>rfl
    | some q=>
     simp only[Option.map_some,Option.some.injEq];exact pk_wr (fun e'=>e (hv.jT k i q hk (e'▸hi) (by omega))) rfl
  rw[e1,e2];rfl
end
def GP (w:World) (p:Nat) (F:Nat→Prop) (x:Rp):Prop:=∃X,GS w p F X∧X.Ok∧X.view=x
def GPTo (w w':World) (p:Nat) (F:Nat→Prop) (x:Rp):Prop:=To (fun w F=>GP w p F x) w w' F
section
variable {w w' w2:World} {p:Nat} {F:Nat→Prop} {X:Gp} {x:Rp}
theorem GP.chg {G:Nat→Prop} (h:GP w p F x) (hc:Chg G w w') (hG:∀j,F j→¬G j) (hG0:¬G 0):GP w' p F x:=by
 obtain⟨X,h1,h2⟩:=h;exact⟨X,h1.chg hc hG hG0,h2⟩
theorem GP.grew (h:GP w p F x) (hc:Grew w w'):GP w' p F x:=h.chg hc (fun _ _=>id) id
theorem GP.lt (h:GP w p F x):∀j,F j→j< w.heap.size:=by
 obtain⟨X,h1, -⟩:=h;exact h1.lt
theorem GP.zero (h:GP w p F x):¬F 0:=by
 obtain⟨X,h1, -⟩:=h;exact h1.zero
theorem GP.tab (h:GP w p F x):TabAt 0 tab w:=by
 obtain⟨X,h1, -⟩:=h;exact h1.tab
theorem GTo.gp (h:GTo w w' p F X) (ho:X.Ok) (hv:X.view=x):GPTo w w' p F x:=To.imp h fun _ k=>⟨X,k,ho,hv⟩
theorem GP.szs (h:GP w p F x):8≤x.n∧x.n≤4096∧64≤x.sz∧x.sz≤4096∧x.now.length=capN x.n x.sz∧x.now.length≤4096:=by
 obtain⟨X, -,h2,rfl⟩:=h;have:=h2.inv.sz;have e:X.view.now.length=X.table.length:=by simp[Gp.view]
 have h4:=h2.inv.tb4.1;exact⟨this.1,this.2.1,this.2.2.1,this.2.2.2,by rw[e];exact h2.inv.lens.2.2.1,by rw[e];exact h4⟩
end
theorem Gp.entry_no {X:Gp} {i:Nat}:X.view.now[i]? =some .no↔X.table[i]? =some 0:=by
 simp only[Gp.view,List.getElem?_map]
 cases h:X.table[i]? with
 | none=>simp
 | some s=>
  simp only[Option.map_some,Option.some.injEq];constructor
  ·intro e
   by_cases h0:s=0
   ·exact h0
   ·have:=pk_used X.D X.fr s
    rw[e] at this;simp[Pk.used,h0] at this
  ·rintro rfl;rfl
theorem Gp.entry_used {X:Gp} {i:Nat} {c:Pk} (h:X.view.now[i]? =some c) (hu:c.used=true):∃s,X.table[i]? =some s∧s≠0∧c=pk X.D X.fr s:=by
 simp only[Gp.view,List.getElem?_map] at h
 cases ht:X.table[i]? with
 | none=>rw[ht] at h;cases h
 | some s=>
  rw[ht] at h;simp only[Option.map_some,Option.some.injEq] at h;subst h;rw[pk_used] at hu;exact⟨s,rfl,by simpa using hu,rfl⟩
theorem Gp.Ok.rdy {X:Gp} {o:Cg} (h:X.Ok) (hx:X.op=some o):X.rdy=0:=by
 unfold Gp.rdy;rw[h.up.1,hx];rfl
theorem Gp.view_op {X:Gp} (h:X.view.was≠none):∃o,X.op=some o:=by
 cases hx:X.op with
 | none=>simp[Gp.view,hx] at h
 | some o=>exact⟨o,rfl⟩
theorem Gp.more_need {X:Gp} {o:Cg} (h:X.Ok) (hx:X.op=some o) (i m:Nat):o.more (i / X.row) m=X.view.need (i / X.view.row) m:=by
 unfold Cg.more Rp.need Rp.row;rw[h.row];simp only[Gp.view,Gp.tc,hx]
section
variable (p i:Nat) (F:Nat→Prop) (x:Rp) (w:World)
theorem gp_begin (h:GP w p F x) (ho:x.was=none) :
  Calls prog 27 #[.pointer (some ⟨p,0,none⟩)] w fun e' w'=>e'= .returned (.int .i64 0)∧GPTo w w' p F x.begun:=by
 obtain⟨X,h1,h2,rfl⟩:=h
 have hx:X.op=none:=by
  cases hx:X.op with
  | none=>rfl
  | some o=>simp[Gp.view,hx] at ho
 refine(gbegin_ok p F X w h1 h2.up.1 hx h2.inv.tb4.1).mono ?_;rintro e w1 ⟨rfl,h3⟩;refine⟨rfl,h3.gp ⟨?_,h2.row,h2.up⟩ ?_⟩
 ·have:=h2.inv
  simp only[Gp.old,Gp.fr,Gp.lf,Gp.tc,hx] at this;exact this
 ·simp[Gp.view,Rp.begun,Gp.begun,Gp.fr,Gp.tc,hx]
theorem gp_alloc_none (h:GP w p F x) (ho:x.was≠none) (hf:∀c∈x.now,c≠ .no) :
  Calls prog 20 #[.pointer (some ⟨p,0,none⟩)] w fun e' w'=>e'= .returned (.tuple #[.int .i64 0,.int .i64 21])∧w=w':=by
 obtain⟨X,h1,h2,rfl⟩:=h;obtain⟨o,hx⟩:=Gp.view_op ho;refine galloc_none p F X w h1 (h2.rdy hx) h2.inv.tb4.1 fun s hs=>?_;rintro rfl;exact hf .no (List.mem_map.2 ⟨0,hs,rfl⟩) rfl
theorem Gp.entry_before {X:Gp} {i:Nat} (hf:∀ (k:Nat) c,k< i→X.view.now[k]? =some c→c≠ .no):∀ (k s:Nat),k< i→X.table[k]? =some s→s≠0:=by
 rintro k s hk hs rfl;exact hf k .no hk (Gp.entry_no.2 hs) rfl
theorem gp_alloc_full (h:GP w p F x) (ho:x.was≠none) (hi:x.now[i]? =some .no) (hf:∀ (k:Nat) c,k< i→x.now[k]? =some c→c≠ .no) (hm:x.room< (x.need (i / x.row) 0:Nat)) :
  Calls prog 20 #[.pointer (some ⟨p,0,none⟩)] w fun e' w'=>e'= .returned (.tuple #[.int .i64 0,.int .i64 21])∧Grew w w':=by
 obtain⟨X,h1,h2,rfl⟩:=h;obtain⟨o,hx⟩:=Gp.view_op ho;exact galloc_full p i F X o w h1 (h2.rdy hx) hx h2.sz h2.inv.sz.2.1 (Gp.entry_no.1 hi) (Gp.entry_before hf) (by rw[h2.room,Gp.more_need h2 hx];exact hm)
theorem gp_alloc_ok (h:GP w p F x) (ho:x.was≠none) (hi:x.now[i]? =some .no) (hf:∀ (k:Nat) c,k< i→x.now[k]? =some c→c≠ .no) (hm:(x.need (i / x.row) 0:Nat)≤x.room) :
  Calls prog 20 #[.pointer (some ⟨p,0,none⟩)] w fun e' w'=>e'= .returned (.tuple #[.int .i64 i,.int .i64 0])∧GPTo w w' p F (x.put i .zero):=by
 obtain⟨X,h1,h2,rfl⟩:=h;obtain⟨o,hx⟩:=Gp.view_op ho;have hm':(o.more (i / X.row) 0:Nat)≤X.room:=by rw[h2.room,Gp.more_need h2 hx];exact hm
 refine(galloc_ok p i F X o w h1 (h2.rdy hx) hx h2.sz h2.inv.sz.2.1 (Gp.entry_no.1 hi) (Gp.entry_before hf) hm').mono ?_;rintro e w1 ⟨rfl,h3⟩;have:=h2.alloc hx (Gp.entry_no.1 hi) hm';exact⟨rfl,h3.gp this.1 this.2⟩
variable (bs:List Int) (Ab:Option Addr) (cb:Nat)
theorem gp_write (c:Pk) (h:GP w p F x) (ho:x.was≠none) (hi:x.now[i]? =some c) (hu:c.used=true) (hm:c.isNew=true∨(x.need (i / x.row) 1:Nat)≤x.room)
  (hb:bs.length=x.sz) (hby:∀q∈bs,0≤q∧q≤255) (hA:Ab≠none) (hsl:Sl w 1 Ab bs.length (bv bs)) (hsF:∀a,Ab=some a→¬F a.block) :
  Calls prog 21 #[.pointer (some ⟨p,0,none⟩),.int .i64 i,.slice Ab bs.length cb] w fun e' w'=>e'= .returned (.int .i64 0)∧GPTo w w' p F (x.put i (.new bs)):=by
 obtain⟨X,h1,h2,rfl⟩:=h;obtain⟨o,hx⟩:=Gp.view_op ho;obtain⟨s,hs,h0,rfl⟩:=Gp.entry_used hi hu;have hv:=h2.inv;simp only[Gp.old,Gp.fr,Gp.lf,Gp.tc,hx] at hv;have hfr:X.fr=o.fresh:=by simp only[Gp.fr,hx]
 rw[hfr,pk_isNew X.D o.fresh s fun e=>(hv.frr s e).1] at hm
 cases hf:o.fresh s with
 | true=>
  have:=h2.put (bs:=bs) hx hs hf hby
  refine(gwrite_fresh p i s bs Ab cb F X o w h1 (h2.rdy hx) hx h2.sz hs h0 hf (hv.frr s hf).2.1 h2.up.2.1 h2.up.2.2 h2.up.1 hb hA hsl hsF).mono ?_;rintro e w1 ⟨rfl,h3⟩
  exact⟨rfl,h3.gp this.1 this.2⟩
 | false=>
  rw[hf] at hm
  have hm':(o.more (i / X.row) 1:Nat)≤X.room:=by
   rw[h2.room,Gp.more_need h2 hx];exact hm.resolve_left (by simp)
  have hr:X.room=(cnt X.free:Int) - (cntN o.touched 64:Int):=by simp only[Gp.room,hx]
  have hm1:1≤o.more (i / X.row) 1:=by unfold Cg.more;omega
  obtain⟨j,hj, -,hjt⟩:=take_there (fe:=X.free) (by omega);have:=h2.fill (bs:=bs) hx hs hf hjt hm' hby
  have hfree:=hv.free hjt
  have hsn:s≤1∨s< X.D.n:=by
   by_cases e:s≤1
   ·exact .inl e
   ·refine .inr ?_
    rcases hv.cur i s hs (by omega) with e1 | e1
    ·rw[hf] at e1;cases e1
    ·exact hv.rO i s e1
  refine(gwrite_new p i s j bs Ab cb F X o w h1 (h2.rdy hx) hx h2.sz hs h0 hf hsn hj (yP4 hfree).1 (by have:=hv.lfle;omega) hm' h2.up.2.1 h2.up.2.2 h2.up.1 hb hA hsl hsF).mono ?_;rintro e w1 ⟨rfl,h3⟩;exact⟨rfl,h3.gp this.1 this.2⟩
theorem gp_write_full (nb:Nat) (c:Pk) (h:GP w p F x) (ho:x.was≠none) (hi:x.now[i]? =some c) (hu:c.used=true) (hn:c.isNew=false) (hm:x.room< (x.need (i / x.row) 1:Nat)) (hb:nb=x.sz) :
  Calls prog 21 #[.pointer (some ⟨p,0,none⟩),.int .i64 i,.slice Ab nb cb] w fun e' w'=>e'= .returned (.int .i64 21)∧Grew w w':=by
 obtain⟨X,h1,h2,rfl⟩:=h;obtain⟨o,hx⟩:=Gp.view_op ho;obtain⟨s,hs,h0,rfl⟩:=Gp.entry_used hi hu;have hv:=h2.inv;simp only[Gp.old,Gp.fr,Gp.lf,Gp.tc,hx] at hv;have hfr:X.fr=o.fresh:=by simp only[Gp.fr,hx]
 rw[hfr,pk_isNew X.D o.fresh s fun e=>(hv.frr s e).1] at hn;have hsz:=hv.sz
 have hsn:s< 4096:=by
  by_cases e:s≤1
  ·omega
  ·rcases hv.cur i s hs (by omega) with e1 | e1
   ·rw[hn] at e1;cases e1
   ·have:=hv.rO i s e1;omega
 exact gwrite_full p i s nb Ab cb F X o w h1 (h2.rdy hx) hx h2.sz hs h0 hn hsn hsz.2.1 (by rw[h2.room,Gp.more_need h2 hx];exact hm) hb
def RdOut (w w':World) (p:Nat) (F:Nat→Prop) (x:Rp) (bs:List Int) (e:Ending):Prop:=
 ∃A c,e= .returned (.tuple #[.slice A x.sz c,.int .i64 0])∧w'.ownsRow w.heap.size 5 1 (.slice A x.sz c) x.sz (bv bs)∧bs.length=x.sz∧(∀q∈bs,0≤q∧q≤255)∧GP w' p F x∧Chg F w w'∧∀a,A=some a→¬F a.block
theorem gp_read (c:Pk) (h:GP w p F x) (hi:x.now[i]? =some c) (hu:c.used=true) :
  Calls prog 84 #[.pointer (some ⟨p,0,none⟩),.int .i64 i] w fun e' w'=>RdOut w w' p F x (c.bytes x.sz) e':=by
 obtain⟨X,h1,h2,rfl⟩:=h;obtain⟨s,hs,h0,rfl⟩:=Gp.entry_used hi hu;have hv:=h2.inv;by_cases e1:s=1
 ·subst e1
  refine(gread_one p i F X w h1 h2.up.1 hv.tb4.1 hs).mono ?_;rintro e w1 ⟨A,c,rfl,ho,hg⟩;refine⟨A,c,rfl,ho,by simp[pk,Pk.bytes,Gp.view],fun q hq=>by simp[pk,Pk.bytes] at hq;omega,⟨X,h1.grew hg,h2,rfl⟩,hg.chg,fun a ha hf=>?_⟩;subst ha;have:=(ho.lt a.block rfl).1;have h3:=h1.lt _ hf;omega
 ·have hsn:s< X.D.n:=by
   rcases hv.cur i s hs (by omega) with e | e
   ·exact(hv.frr s e).2.1
   ·exact hv.rO i s e
  have hb:(pk X.D X.fr s).bytes X.view.sz=X.D.rd (s:Int):=by
   unfold pk;rw[if_neg h0,if_neg e1];split<;>rfl
  rw[hb]
  have hlen:(X.D.rd (s:Int)).length=X.D.sz:=by
   obtain⟨L,d,b,A,ca,vp,vt,vo,hG, -⟩:=h1;exact hG.dsk.rd_len (by omega) (by omega)
  refine(gread_sec p i s F X w h1 h2.up.1 h2.up.2.1 hv.tb4.1 hs (by omega) hsn).mono ?_;rintro e w1 ⟨A,c,rfl,ho,hg,hc,ha⟩;exact⟨A,c,rfl,ho,hlen,hv.byt s hsn,⟨X,hg,h2,rfl⟩,hc,ha⟩
end
end
end Go.Proofs.YtpkkcicaeldodaaGreatDoor
