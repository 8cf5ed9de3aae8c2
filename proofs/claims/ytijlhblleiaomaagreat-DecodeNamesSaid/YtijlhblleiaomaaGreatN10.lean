/- What functions of the program compute. -/
import Derived.Test.YtijlhblleiaomaaGreatN9
import Derived.Test.YtijlhblleiaomaaGreatN8
set_option linter.unusedVariables false
set_option linter.unusedSimpArgs false
namespace Go.AM.B1
open Go.AM Go.AM.So
attribute [local irreducible] ke
end Go.AM.B1
namespace Go.AM.B1
open Go.AM Go.AM.So
attribute [local irreducible] ke
def owns (n:Nat):List AV:=(List.range n).map fun k=> .own (2 * k+1) n
def Ax (n:Nat) (f:Nat→Bool) (fl:Nat):aa:= .seq 1 false ((Au n f).map .pv) fl false
structure uO (H:List aa) (n:Nat) (f:Nat→Nat→Bool):Prop where
 len:H.length=2 * n+1
 hd:∃ nl,nl=false∧H[0]? =some (.seq 1 false (owns n) 0 nl)
 row:∀ k,k < n→∃ fl,fl≤n∧H[2 * k+1]? =some (Ax n (f k) fl)
 Wt:Kc H
theorem Vz (n:Nat):(owns n).length=n:=by rw[owns,List.length_map,List.length_range]
theorem oN {n k:Nat} (h:k < n):(owns n)[k]? =some (.own (2 * k+1) n):=by
 rw[owns,List.getElem?_map,List.getElem?_range h];rfl
theorem iG (n:Nat) (f:Nat→Bool) (fl m:Nat):pa m (Ax n f fl)=some (Ax n f fl):=by
 have:((Au n f).map AV.pv).all (AV.Wc m deep)=true:=by
  rw[List.all_eq_true]
  intro v hv
  obtain⟨p,_,rfl⟩:=List.mem_map.1 hv
  rfl
 simp[pa,Ax,this]
theorem SI (m:Nat) (g:Nat→Bool) {j:Nat} (hj:j < m) (b:Bool):(Au m g).set j (.bool b)=Au m fun x=>if x=j then b else g x:=by
 apply List.ext_getElem
 ·rw[List.length_set,Sj,Sj]
 ·intro k h1 h2
  rw[List.getElem_set,ED,ED]
  by_cases hk:j=k
  ·subst hk;rw[if_pos rfl,if_pos rfl]
  ·rw[if_neg hk,if_neg (Ne.symm hk)]
section
variable {H:List aa} {n:Nat} {f:Nat→Nat→Bool} (h:uO H n f)
include h
theorem uO.cut:Va (pa (2 * n+1)) (H.take (2 * n+1))=some H:=by
 rw[← h.len,List.take_length];exact Kc.cut h.Wt
theorem uO.i0 {i:Nat} (hi:i < n):ma H 1 (.own 0 n) (i:Int)=some (.ic 0 n i):=by
 obtain⟨nl,_,h0⟩:=h.hd
 simp only[ma,h0]
 rw[if_pos (by refine⟨trivial,?_,?_⟩ <;> first | (unfold Ca;omega) | (unfold Dg;rw[Vz];omega))]
 simp
theorem uO.l0 {i:Nat} (hi:i < n):na H false 1 (.ic 0 n i)=some (.own (2 * i+1) n):=by
 obtain⟨nl,_,h0⟩:=h.hd
 simp only[na,h0]
 rw[if_pos (Vz n)]
 simp only[ng,Bool.false_eq_true,if_false]
 exact oN hi
theorem uO.i1 {i j:Nat} (hi:i < n) (hj:j < n):ma H 1 (.own (2 * i+1) n) (j:Int)=some (.ic (2 * i+1) n j):=by
 obtain⟨fl,hf,h0⟩:=h.row i hi
 simp only[ma,h0,Ax]
 rw[if_pos (by refine⟨trivial,?_,?_⟩ <;> first | (unfold Ca;omega) | (unfold Dg;rw[List.length_map,Sj];omega))]
 simp
theorem uO.l1 {i j:Nat} (hi:i < n) (hj:j < n):na H false 1 (.ic (2 * i+1) n j)=some (.pv (.bool (f i j))):=by
 obtain⟨fl,hf,h0⟩:=h.row i hi
 simp only[na,h0,Ax]
 rw[if_pos (by rw[List.length_map,Sj])]
 simp only[ng,Bool.false_eq_true,if_false,List.getElem?_map,fG _ hj,Option.map_some]
end
theorem uO.store {H:List aa} {n:Nat} {f:Nat→Nat→Bool} (h:uO H n f) {i j:Nat} (hi:i < n) (hj:j < n):
 ∃ H',Pa H 1 (.ic (2 * i+1) n j) (.pv (.bool true))=some H'∧uO H' n (fun a b=>if a=i∧b=j then true else f a b):=by
 obtain⟨fl,hf,h0⟩:=h.row i hi
 have hc:(AV.pv (.bool true)).cells=[.pv (.bool true)]:=rfl
 refine⟨H.set (2 * i+1) (Ax n (fun b=>if b=j then true else f i b) n),?_,?_⟩
 ·simp only[Pa,h0,Ax,hc]
  rw[if_pos ⟨rfl,rfl⟩,if_pos ⟨by rw[List.length_map,Sj],by show j+1≤n;omega⟩,oa,oa,←List.map_set,SI n _ hj]
 ·refine⟨by rw[List.length_set,h.len],?_,?_,?_⟩
  ·obtain⟨nl,hnl,h1⟩:=h.hd
   exact⟨nl,hnl,by rw[List.getElem?_set_ne (by omega)];exact h1⟩
  ·intro k hk
   by_cases hki:k=i
   ·subst hki
    refine⟨n,Nat.le_refl _,?_⟩
    rw[List.getElem?_set_self (by rw[h.len];omega)]
    have:(fun b=>if k=k∧b=j then true else f k b)=fun b=>if b=j then true else f k b:=by funext b;simp only[true_and]
    show _=some (Ax n (fun b=>if k=k∧b=j then true else f k b) n)
    rw[this]
   ·obtain⟨fl',hf',h1⟩:=h.row k hk
    refine⟨fl',hf',?_⟩
    have:(fun b=>if k=i∧b=j then true else f k b)=f k:=by funext b;rw[if_neg (fun h=>hki h.1)]
    rw[List.getElem?_set_ne (by omega),h1]
    show _=some (Ax n (fun b=>if k=i∧b=j then true else f k b) fl')
    rw[this]
  ·intro m hm o ho
   rw[List.length_set] at hm
   rcases List.mem_or_eq_of_mem_set ho with h1 | h1
   ·exact h.Wt m hm o h1
   ·subst h1;exact iG _ _ _ _
def sK (f:Nat→Nat→Bool) (i j a b:Nat):Bool:=if (a=i∧b=j)∨(a=j∧b=i) then true else f a b
def aj (C:List (List Int)) (i x:Nat):Int:=(C.getD i []).getD x 0
def fu (C:List (List Int)) (f:Nat→Nat→Bool) (i j x:Nat):Bool:=
 ((aj C i x != aj C j x)&&(decide (aj C i x < 0)||decide (aj C j x < 0)))||(decide (aj C i x≥0)&&decide (aj C j x≥0)&&f (aj C i x).toNat (aj C j x).toNat)
structure zJ (C:List (List Int)):Prop where
 row:∀ r∈C,r.length=256
 lt:∀ r∈C,∀ v∈r,v < (C.length:Int)
 sz:C.length≤64
theorem zJ.get {C:List (List Int)} (h:zJ C) {i x:Nat} (hi:i < C.length) (hx:x < 256):C[i][x]? =some (aj C i x)∧aj C i x < (C.length:Int):=by
 have hm:=List.getElem_mem hi
 have hl:=h.row _ hm
 have hg:C.getD i []=C[i]:=by rw[List.getD_eq_getElem?_getD,List.getElem?_eq_getElem hi];rfl
 have h1:C[i][x]? =some (aj C i x):=by
  unfold aj
  rw[hg,List.getD_eq_getElem?_getD,List.getElem?_eq_getElem (by omega)];rfl
 exact⟨h1,h.lt _ hm _ (List.mem_of_getElem? h1)⟩
theorem zJ.mg {C:List (List Int)} (h:zJ C) {i:Nat} (hi:i < C.length) (H:List aa):ma H 256 (.pv (.lit 256 (C.map WI))) (i:Int)=some (.pv (.rp (C[i].map i64) 0)):=by
 simp only[ma]
 rw[if_pos (by refine⟨trivial,?_⟩;unfold Ca;simp;omega)]
 simp[hi,WI,PV.cells]
theorem zJ.load {C:List (List Int)} (h:zJ C) {i x:Nat} (hi:i < C.length) (hx:x < 256) (H:List aa):na H false 1 (.pv (.rp (C[i].map i64) x))=some (.pv (i64 (aj C i x))):=
 qR (by rw[List.getElem?_map,(h.get hi hx).1];rfl) H
section
variable (call:Fa) {C:List (List Int)} (hC:zJ C) {i j:Nat} (hi:i < C.length) (hj:j < C.length)
include hC hi hj
end
end Go.AM.B1
namespace Go.AM.B1
open Go.AM Go.AM.So
def Su (ss:List ec) (sets:List Al) (a:Al) (x:Nat) (v:Int):Prop:=
 (si (CA ss a x) ss.length=false∧v= -2)∨
 (si (CA ss a x) ss.length=true∧si (Ky ss a x) ss.length=true∧v= -1)∨
 (si (CA ss a x) ss.length=true∧si (Ky ss a x) ss.length=false∧∃ k m:Nat,v=(k:Int)∧BC ss a x m∧sets[k]? =some (a.1+1,(m:Int)))
theorem Su.mono {ss:List ec} {sets t:List Al} {a:Al} {x:Nat} {v:Int} (h:Su ss sets a x v):Su ss (sets++t) a x v:=by
 rcases h with h | h | ⟨h1,h2,k,m,h3,h4,h5⟩
 ·exact .inl h
 ·exact .inr (.inl h)
 ·refine .inr (.inr ⟨h1,h2,k,m,h3,h4,?_⟩)
  rw[List.getElem?_append_left (List.getElem?_eq_some_iff.1 h5).1];exact h5
theorem RF {a:Al}:∀ {l:List Al} {k i:Nat},wo a l k=some i→k≤i∧l[i - k]? =some a
 |b::l,k,i,h=>by
  simp only[wo] at h
  split at h
  ·next he=>injection h with h;subst h;subst he;exact⟨Nat.le_refl _,by simp⟩
  ·obtain⟨h1,h2⟩:=RF h
   refine⟨by omega,?_⟩
   rw[show i - k=(i - (k+1))+1 by omega,List.getElem?_cons_succ];exact h2
structure IH (sets:List Al) (d:Nat):Prop where
 up:∀ (p q:Nat) a b,p≤q→sets[p]? =some a→sets[q]? =some b→a.1≤b.1
 top:∀ (q:Nat) b,sets[q]? =some b→b.1≤d+1
theorem IH.push {sets:List Al} {d:Nat} (h:IH sets d) (e:Int):IH (sets++[(d+1,e)]) d:=by
 have hg:∀ (q:Nat) b,(sets++[(d+1,e)])[q]? =some b→(q < sets.length∧sets[q]? =some b)∨(q=sets.length∧b=(d+1,e)):=by
  intro q b hb
  rcases Nat.lt_or_ge q sets.length with h1 | h1
  ·rw[List.getElem?_append_left h1] at hb;exact .inl ⟨h1,hb⟩
  ·rw[List.getElem?_append_right h1] at hb
   cases hq:q - sets.length with
   |zero=>rw[hq] at hb;simp at hb;exact .inr ⟨by omega,hb.symm⟩
   |succ n=>rw[hq] at hb;simp at hb
 refine⟨?_,?_⟩
 ·intro p q a b hpq ha hb
  rcases hg p a ha with⟨h1,h2⟩ | ⟨h1,h2⟩ <;> rcases hg q b hb with⟨h3,h4⟩ | ⟨h3,h4⟩
  ·exact h.up p q a b hpq h2 h4
  ·rw[h4];exact h.top p a h2
  ·omega
  ·rw[h2,h4];exact Nat.le_refl _
 ·intro q b hb
  rcases hg q b hb with⟨h3,h4⟩ | ⟨h3,h4⟩
  ·exact h.top q b h4
  ·rw[h4];exact Nat.le_refl _
theorem QK {ss:List ec} (hw:ss.length≤32) {sets:List Al} {a:Al} (hba:uT a) {x:Nat} {p:List Al×Int} (h:Tg ss a x sets=some p) (hR:IH sets a.1):
 Su ss p.1 a x p.2∧IH p.1 a.1∧((p.1=sets)∨(p.1.length=sets.length+1∧p.2=(sets.length:Int))):=by
 obtain⟨m,hm⟩:=DS (x:=x) hba hw
 rw[hm.step sets] at h
 by_cases h1:si (CA ss a x) ss.length=false
 ·rw[if_pos h1] at h
  injection h with h;subst h
  exact⟨.inl ⟨h1,rfl⟩,hR,.inl rfl⟩
 ·rw[if_neg h1] at h
  have h1':si (CA ss a x) ss.length=true:=by simpa using h1
  by_cases h2:si (Ky ss a x) ss.length=true
  ·rw[if_pos h2] at h
   injection h with h;subst h
   exact⟨.inr (.inl ⟨h1',h2,rfl⟩),hR,.inl rfl⟩
  ·rw[if_neg h2] at h
   have h2':si (Ky ss a x) ss.length=false:=by simpa using h2
   cases hi:wo (a.1+1,(m:Int)) sets 0 with
   |some k=>
    rw[hi] at h
    injection h with h;subst h
    exact⟨.inr (.inr ⟨h1',h2',k,m,rfl,hm,(RF hi).2⟩),hR,.inl rfl⟩
   |none=>
    rw[hi] at h
    simp only at h
    split at h
    ·injection h with h;subst h
     refine⟨.inr (.inr ⟨h1',h2',sets.length,m,rfl,hm,by simp⟩),hR.push _,.inr ⟨by simp,rfl⟩⟩
    ·cases h
theorem jG {ss:List ec} (hw:ss.length≤32) {a:Al} (hba:uT a) {i:Nat}:∀ (xs:List Nat) (r r':List Al×List Int),xs.Nodup→(∀ x∈xs,x < r.2.length)→Wn ss r.1→r.1[i]? =some a→IH r.1 a.1→tn ss a xs r=some r'→
 (∀ x∈xs,Su ss r'.1 a x (r'.2.getD x 0))∧(∀ y,y ∉ xs→r'.2.getD y 0=r.2.getD y 0)∧(∀ k,r.1.length≤k→k < r'.1.length→∃ x∈xs,r'.2.getD x 0=(k:Int))∧IH r'.1 a.1
 | [],r,r',_,_,_,_,hR,e=>by
   injection e with e;subst e
   exact⟨by simp,fun _ _=>rfl,fun k h1 h2=>by omega,hR⟩
 |x::xs,r,r',hnd,hlt,ta,ha,hR,e=>by
  cases hst:Tg ss a x r.1 with
  |none=>rw[pt hst] at e;cases e
  |some p=>
   rw[Nt hst] at e
   obtain⟨s1,s2,s3⟩:=QK hw hba hst hR
   obtain⟨g1,t,g2⟩:=PE ta ha hw hst
   rw[List.nodup_cons] at hnd
   have hi:=(List.getElem?_eq_some_iff.1 ha).1
   have hxl:=hlt x (by simp)
   obtain⟨k1,k2,k3,k4⟩:=jG hw hba xs (p.1,r.2.set x p.2) r' hnd.2 (fun y hy=>by rw[List.length_set];exact hlt y (by simp[hy])) g1 (by rw[g2,List.getElem?_append_left hi];exact ha) s2 e
   obtain⟨_,⟨t',q2⟩,_⟩:=Nv hw xs (p.1,r.2.set x p.2) r' g1 (by rw[g2,List.getElem?_append_left hi];exact ha) e
   simp only at q2
   have hx:r'.2.getD x 0=p.2:=by
    rw[k2 x hnd.1,List.getD_eq_getElem?_getD,List.getElem?_set_self hxl];rfl
   refine⟨?_,?_,?_,k4⟩
   ·intro y hy
    rcases List.mem_cons.1 hy with rfl | hy
    ·rw[hx,q2];exact s1.mono
    ·exact k1 y hy
   ·intro y hy
    rw[List.mem_cons,not_or] at hy
    rw[k2 y hy.2,List.getD_eq_getElem?_getD,List.getElem?_set_ne (Ne.symm hy.1),←List.getD_eq_getElem?_getD]
   ·intro k h1 h2
    rcases s3 with s3 | ⟨s3,s4⟩
    ·obtain⟨y,hy,h3⟩:=k3 k (by rw[s3];exact h1) h2
     exact⟨y,by simp[hy],h3⟩
    ·by_cases hk:k=r.1.length
     ·exact⟨x,by simp,by rw[hx,s4,hk]⟩
     ·obtain⟨y,hy,h3⟩:=k3 k (by simp only;omega) h2
      exact⟨y,by simp[hy],h3⟩
structure gj (ss:List ec) (sets:List Al) (C:List (List Int)):Prop where
 ok:Wn ss sets
 le:C.length≤sets.length
 first:sets[0]? =some (0,Oo ss.length)
 row:∀ r∈C,r.length=256
 step:∀ (k:Nat) a,k < C.length→sets[k]? =some a→∀ x,x < 256→Su ss sets a x (aj C k x)
 up:∀ (p q:Nat) a b,p≤q→sets[p]? =some a→sets[q]? =some b→a.1≤b.1
 top:∀ (k q:Nat) a b,k=C.length→sets[k]? =some a→sets[q]? =some b→b.1≤a.1+1
 reach:∀ k,0 < k→k < sets.length→∃ j x,j < k∧j < C.length∧x < 256∧aj C j x=(k:Int)
theorem eJ {C:List (List Int)} {r:List Int} {k x:Nat} (hk:k < C.length):aj (C++[r]) k x=aj C k x:=by
 have:(C++[r]).getD k []=C.getD k []:=by
  rw[List.getD_eq_getElem?_getD,List.getElem?_append_left hk,←List.getD_eq_getElem?_getD]
 unfold aj
 rw[this]
theorem xJ {C:List (List Int)} {r:List Int} {x:Nat}:aj (C++[r]) C.length x=r.getD x 0:=by
 unfold aj
 have:(C++[r]).getD C.length []=r:=by
  rw[List.getD_eq_getElem?_getD,List.getElem?_append_right (Nat.le_refl _),Nat.sub_self];rfl
 rw[this]
theorem gj.next {ss:List ec} (hw:ss.length≤32) {sets:List Al} {C:List (List Int)} (h:gj ss sets C) {a:Al} (ha:sets[C.length]? =some a) {p:List Al×List Int} (hp:tn ss a (List.range 256) (sets,Ya)=some p):gj ss p.1 (C++[p.2]):=by
 have hlt:=(List.getElem?_eq_some_iff.1 ha).1
 obtain⟨_,b,hb,hblt,_⟩:=h.ok.2 _ a ha
 have hba:uT a:=⟨b,hb,hblt⟩
 obtain⟨k1,k2,k3,k4⟩:=jG hw hba (i:=C.length) (List.range 256) (sets,Ya) p List.nodup_range (fun x hx=>by simp only[QA];simpa using hx) h.ok ha ⟨h.up,fun q b hb=>h.top C.length q a b rfl ha hb⟩ hp
 obtain⟨g1,⟨t,g2⟩,g3⟩:=Nv hw (List.range 256) (sets,Ya) p h.ok ha hp
 simp only at g2 g3
 rw[QA] at g3
 have hold:∀ (k:Nat) c,k < sets.length→(p.1[k]? =some c↔sets[k]? =some c):=fun k c hk=>by rw[g2,List.getElem?_append_left hk]
 refine⟨g1,?_,?_,?_,?_,k4.up,?_,?_⟩
 ·rw[g2];simp;omega
 ·rw[hold 0 _ (by omega)];exact h.first
 ·intro r hr
  rcases List.mem_append.1 hr with h1 | h1
  ·exact h.row r h1
  ·rw[List.mem_singleton] at h1;subst h1;exact g3
 ·intro k c hk hc x hx
  rw[List.length_append,List.length_singleton] at hk
  rcases Nat.lt_or_ge k C.length with h1 | h1
  ·rw[eJ h1,g2]
   exact (h.step k c h1 ((hold k c (by omega)).1 hc) x hx).mono
  ·have:k=C.length:=by omega
   subst this
   have hca:c=a:=by
    have:=(hold C.length c hlt).1 hc
    rw[ha] at this;injection this with this;exact this.symm
   subst hca
   rw[xJ]
   exact k1 x (by simpa using hx)
 ·intro k q c d hk hc hd
  rw[List.length_append,List.length_singleton] at hk
  have h1:=k4.top q d hd
  have h2:=k4.up C.length k a c (by omega) ((hold _ a hlt).2 ha) hc
  omega
 ·intro k h0 hk
  rcases Nat.lt_or_ge k sets.length with h1 | h1
  ·obtain⟨j,x,h2,h3,h4,h5⟩:=h.reach k h0 h1
   exact⟨j,x,h2,by rw[List.length_append];omega,h4,by rw[eJ h3];exact h5⟩
  ·obtain⟨x,hx,h2⟩:=k3 k h1 hk
   exact⟨C.length,x,by omega,by simp,by simpa using hx,by rw[xJ];exact h2⟩
theorem eC {ss:List ec} (hw:ss.length≤32):∀ (k:Nat) (r r':List Al×List (List Int)),r.2.length+k=64→gj ss r.1 r.2→Ui ss k r=some r'→gj ss r'.1 r'.2∧r'.2.length=r'.1.length
 |0,r,r',hk,h,e=>by
  injection e with e;subst e
  have:=h.ok.1
  have:=h.le
  exact⟨h,by omega⟩
 |k+1,r,r',hk,h,e=>by
  cases ha:r.1[r.2.length]? with
  |none=>
   rw[ot ha] at e;injection e with e;subst e
   refine⟨h,?_⟩
   have:=h.le
   rcases Nat.lt_or_ge r.2.length r.1.length with h1 | h1
   ·rw[List.getElem?_eq_getElem h1] at ha;cases ha
   ·omega
  |some a=>
   cases hr:tn ss a (List.range 256) (r.1,Ya) with
   |none=>rw[Ru ha hr] at e;cases e
   |some p=>
    rw[Bu ha hr] at e
    exact eC hw k (p.1,r.2++[p.2]) r' (by simp;omega) (h.next hw ha hr) e
theorem rM {ss:List ec} (hw:ss.length≤32) (hne:∀ s∈ss,0 < s.parts.length) {p:List Al×List (List Int)} (h:Ui ss 64 (xk ss,[])=some p):gj ss p.1 p.2∧p.2.length=p.1.length:=by
 refine eC hw 64 (xk ss,[]) p rfl ⟨aA hw hne,by simp,rfl,by simp,fun k a hk=>by simp at hk,?_,?_,?_⟩ h
 ·intro p q a b hpq ha hb
  have:p=0∧q=0:=by
   have h1:=(List.getElem?_eq_some_iff.1 ha).1
   have h2:=(List.getElem?_eq_some_iff.1 hb).1
   simp[xk] at h1 h2;omega
  obtain⟨rfl,rfl⟩:=this
  rw[ha] at hb;injection hb with hb;subst hb;exact Nat.le_refl _
 ·intro k q a b hk ha hb
  have h2:=(List.getElem?_eq_some_iff.1 hb).1
  simp[xk] at h2;subst h2
  simp[xk] at hb;subst hb;simp
 ·intro k h0 hk
  simp[xk] at hk;omega
end Go.AM.B1
namespace Go.AM.B1
open Go.AM Go.AM.So
attribute [local irreducible] ke
def RS (C:List (List Int)) (i j:Nat) (f:Nat→Nat→Bool) (g:Bool) (f':Nat→Nat→Bool) (g':Bool):Prop:=
 (f'=f∧g'=g∧(f i j=true∨∀ x,x < 256→fu C f i j x=false))∨(f i j=false∧(∃ x,x < 256∧fu C f i j x=true)∧f'=sK f i j∧g'=true)
section
variable (call:Fa) {C:List (List Int)} (hC:zJ C)
include hC
end
def Jw (n:Nat) (f:Nat→Nat→Bool):Nat:=((List.range n).flatMap fun i=>(List.range n).map fun j=>(i,j)).countP fun p=> !f p.1 p.2
theorem UC {α:Type} {p q:α→Bool}:∀ {l:List α},(∀ a∈l,q a=true→p a=true)→(∃ a∈l,p a=true∧q a=false)→l.countP q < l.countP p
 | [],_,⟨a,h,_⟩=>by cases h
 |b::l,h,⟨a,ha,hp,hq⟩=>by
  rw[List.countP_cons,List.countP_cons]
  have hmono:l.countP q≤l.countP p:=List.countP_mono_left fun x hx h1=>h x (by simp[hx]) h1
  rcases List.mem_cons.1 ha with rfl | ha
  ·rw[hp,hq];simp;omega
  ·have ih:=UC (l:=l) (fun x hx=>h x (by simp[hx])) ⟨a,ha,hp,hq⟩
   have hb:=h b (by simp)
   cases hqb:q b with
   |false=>simp;omega
   |true=>rw[hb hqb];simp;omega
theorem MK {n:Nat} {f:Nat→Nat→Bool} {i j:Nat} (hi:i < n) (hj:j < n) (h:f i j=false):Jw n (sK f i j) < Jw n f:=by
 refine UC ?_ ⟨(i,j),?_,?_,?_⟩
 ·rintro⟨a,b⟩ _ h1
  simp only[sK,Bool.not_eq_true'] at h1 ⊢
  split at h1
  ·cases h1
  ·exact h1
 ·rw[List.mem_flatMap]
  exact⟨i,by simpa using hi,by rw[List.mem_map];exact⟨j,by simpa using hj,rfl⟩⟩
 ·simp[h]
 ·simp[sK]
structure bL (C:List (List Int)) (D:Nat→Nat→Prop) (f0:Nat→Nat→Bool) (done:Nat→Nat→Prop) (f:Nat→Nat→Bool) (g:Bool):Prop where
 snd:∀ a b,f a b=true→D a b
 sym:∀ a b,f a b=f b a
 Wc:g=false→f=f0∧∀ i j,done i j→f i j=true∨∀ x,x < 256→fu C f i j x=false
 le:Jw C.length f≤Jw C.length f0
 lt:g=true→Jw C.length f < Jw C.length f0
def uR (C:List (List Int)) (D:Nat→Nat→Prop):Prop:=(∀ a b,D a b→D b a)∧
 ∀ i j x (f:Nat→Nat→Bool),i < C.length→j < C.length→x < 256→(∀ a b,f a b=true→D a b)→fu C f i j x=true→D i j
theorem bL.step {C:List (List Int)} {D:Nat→Nat→Prop} (hD:uR C D) {f0 f f':Nat→Nat→Bool} {done:Nat→Nat→Prop} {g g':Bool} (h:bL C D f0 done f g) {i j:Nat} (hi:i < C.length) (hj:j < C.length) (hp:RS C i j f g f' g'):
 bL C D f0 (fun a b=>done a b∨(a=i∧b=j)) f' g':=by
 rcases hp with⟨rfl,rfl,hp⟩ | ⟨h1,⟨x,hx,h2⟩,rfl,rfl⟩
 ·refine⟨h.snd,h.sym,fun hg=>⟨(h.Wc hg).1,?_⟩,h.le,h.lt⟩
  rintro a b (hd | ⟨rfl,rfl⟩)
  ·exact (h.Wc hg).2 a b hd
  ·exact hp
 ·have hd:=hD.2 i j x f hi hj hx h.snd h2
  have hlt:=MK hi hj h1
  have hle:=h.le
  refine⟨?_,?_,fun hg=>(by cases hg),by omega,fun _=>by omega⟩
  ·intro a b hab
   unfold sK at hab
   split at hab
   ·next hc=>
    rcases hc with⟨rfl,rfl⟩ | ⟨rfl,rfl⟩
    ·exact hd
    ·exact hD.1 _ _ hd
   ·exact h.snd a b hab
  ·intro a b
   unfold sK
   rw[h.sym a b]
   congr 1
   apply propext
   constructor
   ·rintro (⟨h1,h2⟩ | ⟨h1,h2⟩)
    ·exact .inr ⟨h2,h1⟩
    ·exact .inl ⟨h2,h1⟩
   ·rintro (⟨h1,h2⟩ | ⟨h1,h2⟩)
    ·exact .inr ⟨h2,h1⟩
    ·exact .inl ⟨h2,h1⟩
theorem bL.weaken {C:List (List Int)} {D:Nat→Nat→Prop} {f0 f:Nat→Nat→Bool} {done done':Nat→Nat→Prop} {g:Bool} (h:bL C D f0 done f g) (hd:∀ a b,done' a b→done a b):bL C D f0 done' f g:=
 ⟨h.snd,h.sym,fun hg=>⟨(h.Wc hg).1,fun a b hab=>(h.Wc hg).2 a b (hd a b hab)⟩,h.le,h.lt⟩
end Go.AM.B1
namespace Go.AM.B1
open Go.AM Go.AM.So
attribute [local irreducible] ke
section
variable (call:Fa) {C:List (List Int)} (hC:zJ C) {D:Nat→Nat→Prop} (hD:uR C D) {f0:Nat→Nat→Bool}
include hC hD
end
structure YS (C:List (List Int)) (D:Nat→Nat→Prop) (f:Nat→Nat→Bool) (g:Bool):Prop where
 snd:∀ a b,f a b=true→D a b
 sym:∀ a b,f a b=f b a
 closed:g=false→∀ i j,i < C.length→j < i→f i j=true∨∀ x,x < 256→fu C f i j x=false
end Go.AM.B1
namespace Go.AM.B1
open Go.AM Go.AM.So
theorem yA:∀ {C:List (List Int)},(∀ r∈C,r.length=256)→∀ {k:Nat},(hk:k < C.length)→Ja C.flatten k=C[k]
 | [],_,k,hk=>by simp at hk
 |r::C,h,0,hk=>by
  have hr:=h r (by simp)
  show ((r++C.flatten).drop (0 * 256)).take 256=r
  rw[Nat.zero_mul,List.drop_zero,List.take_append_of_le_length (by omega),List.take_of_length_le (by omega)]
 |r::C,h,k+1,hk=>by
  have hr:=h r (by simp)
  have ih:=yA (C:=C) (fun r' hr'=>h r' (by simp[hr'])) (k:=k) (by simpa using hk)
  show ((r++C.flatten).drop ((k+1) * 256)).take 256=C[k]'(by simpa using hk)
  rw[show (k+1) * 256=r.length+k * 256 by omega,List.drop_append,List.drop_of_length_le (by omega),List.nil_append,Nat.add_sub_cancel_left]
  exact ih
theorem dp:∀ {C:List (List Int)},(∀ r∈C,r.length=256)→C.flatten.length=C.length * 256
 | [],_=>rfl
 |r::C,h=>by
  rw[List.flatten_cons,List.length_append,h r (by simp),dp fun r' hr'=>h r' (by simp[hr']),List.length_cons];omega
section
variable {ss:List ec} {sets:List Al} {C:List (List Int)} (W:gj ss sets C) (hl:C.length=sets.length)
include W hl
theorem gj.at {k x:Nat} (hk:k < C.length) (hx:x < 256):∃ a,sets[k]? =some a∧Su ss sets a x (aj C k x):=by
 have h1:sets[k]? =some (sets[k]'(by omega)):=List.getElem?_eq_getElem (by omega)
 exact⟨_,h1,W.step k _ hk h1 x hx⟩
theorem gj.bound {k x:Nat} (hk:k < C.length) (hx:x < 256): -2≤aj C k x∧aj C k x < C.length:=by
 obtain⟨a,ha,h⟩:=W.at hl hk hx
 rcases h with⟨_,h⟩ | ⟨_,_,h⟩ | ⟨_,_,k',m,h,_,h2⟩
 ·omega
 ·omega
 ·have:=(List.getElem?_eq_some_iff.1 h2).1
  omega
omit hl in
theorem gj.val {r:List Int} (hr:r∈C) {v:Int} (hv:v∈r):∃ k x,k < C.length∧x < 256∧v=aj C k x:=by
 obtain⟨k,hk,rfl⟩:=List.getElem_of_mem hr
 obtain⟨x,hx,rfl⟩:=List.getElem_of_mem hv
 have h256:=W.row _ (List.getElem_mem hk)
 refine⟨k,x,hk,by omega,?_⟩
 unfold aj
 have:C.getD k []=C[k]:=by rw[List.getD_eq_getElem?_getD,List.getElem?_eq_getElem hk];rfl
 rw[this,List.getD_eq_getElem?_getD,List.getElem?_eq_getElem hx];rfl
theorem gj.aU:zJ C:=by
 refine⟨W.row,?_,by have:=W.ok.1;omega⟩
 intro r hr v hv
 obtain⟨k,x,hk,hx,rfl⟩:=W.val hr hv
 exact (W.bound hl hk hx).2
theorem gj.Xz {k x:Nat} (hk:k < C.length) (hx:x < 256) (h:0≤aj C k x):(k:Int) < aj C k x:=by
 obtain⟨a,ha,hs⟩:=W.at hl hk hx
 rcases hs with⟨_,h2⟩ | ⟨_,_,h2⟩ | ⟨_,_,k',m,h2,_,h3⟩
 ·omega
 ·omega
 ·rw[h2]
  rcases Nat.lt_or_ge k k' with h4 | h4
  ·omega
  ·have:=W.up k' k _ _ h4 h3 ha
   simp only at this;omega
theorem gj.later:YJ C.length C.flatten:=by
 intro j hj to hto h0
 rw[yA W.row hj] at hto
 obtain⟨x,hx,rfl⟩:=List.getElem_of_mem hto
 have h256:=W.row _ (List.getElem_mem hj)
 have hn:C[j][x]=aj C j x:=by
  unfold aj
  have:C.getD j []=C[j]:=by rw[List.getD_eq_getElem?_getD,List.getElem?_eq_getElem hj];rfl
  rw[this,List.getD_eq_getElem?_getD,List.getElem?_eq_getElem hx];rfl
 rw[hn] at h0 ⊢
 exact⟨W.Xz hl hj (by omega) h0,(W.bound hl hj (by omega)).2⟩
end
def cls (C:List (List Int)) (j:Nat):Int:=(bg C.length C.flatten).Pb.getD j 0
def ax (C:List (List Int)) (j x:Nat):Int:=if 0≤aj C j x then cls C (aj C j x).toNat else aj C j x
section
variable {ss:List ec} {sets:List Al} {C:List (List Int)} (W:gj ss sets C) (hl:C.length=sets.length)
include W hl
theorem gj.xD:Iu C.length C.flatten 0 (bg C.length C.flatten):=JM (W.later hl) (dp W.row)
theorem gj.vM {j x:Nat} (hj:j < C.length) (hx:x < 256):(Ja (bg C.length C.flatten).C j).getD x 0=ax C j x:=by
 have h:=(W.xD hl).hi j (by omega) hj
 have hg:=(W.aU hl).get hj hx
 rw[h,yA W.row hj,List.getD_eq_getElem?_getD,List.getElem?_map,hg.1]
 show Mm _ (aj C j x)=ax C j x
 unfold Mm ax cls
 rfl
theorem gj.Bv {j:Nat} (hj:j < C.length):(Ja (bg C.length C.flatten).C j).length=256:=pg (W.xD hl).hC hj
theorem gj.dK {i j:Nat} (hi:i < C.length) (hj:j < C.length):cls C i=cls C j↔∀ x,x < 256→ax C i x=ax C j x:=by
 unfold cls
 rw[(W.xD hl).SG hi hj]
 constructor
 ·intro h x hx
  rw[← W.vM hl hi hx,←W.vM hl hj hx,h]
 ·intro h
  apply List.ext_getElem?
  intro x
  by_cases hx:x < 256
  ·have h1:=W.Bv hl hi
   have h2:=W.Bv hl hj
   have h3:=h x hx
   rw[← W.vM hl hi hx,←W.vM hl hj hx,List.getD_eq_getElem?_getD,List.getD_eq_getElem?_getD,List.getElem?_eq_getElem (by omega),List.getElem?_eq_getElem (by omega)] at h3
   rw[List.getElem?_eq_getElem (by omega),List.getElem?_eq_getElem (by omega)]
   exact congrArg some h3
  ·rw[List.getElem?_eq_none (by rw[W.Bv hl hi];omega),List.getElem?_eq_none (by rw[W.Bv hl hj];omega)]
theorem gj.known {f:Nat→Nat→Bool} (hK:YS C (fun i j=>cls C i≠cls C j) f false):∀ i j,i < C.length→j < C.length→(f i j=false↔cls C i=cls C j):=by
 have key:∀ (m i j:Nat),(C.length - i)+(C.length - j)≤m→i < C.length→j < C.length→f i j=false→cls C i=cls C j:=by
  intro m
  induction m with
  |zero=>intro i j h hi hj;omega
  |succ m ih=>
   intro i j hm hi hj hf
   by_cases hij:i=j
   ·rw[hij]
   have hcl:∀ x,x < 256→fu C f i j x=false:=by
    have hsw:∀ x,fu C f j i x=fu C f i j x:=by
     intro x
     unfold fu
     rw[hK.sym,bne_comm,Bool.or_comm (decide (aj C j x < 0)),Bool.and_comm (decide (aj C j x≥0))]
    rcases Nat.lt_or_gt_of_ne hij with h1 | h1
    ·rcases hK.closed rfl j i hj h1 with h2 | h2
     ·rw[hK.sym,hf] at h2;cases h2
     ·intro x hx;rw[← hsw];exact h2 x hx
    ·rcases hK.closed rfl i j hi h1 with h2 | h2
     ·rw[hf] at h2;cases h2
     ·exact h2
   rw[W.dK hl hi hj]
   intro x hx
   have ht:=hcl x hx
   have di:=W.Xz hl hi hx
   have dj:=W.Xz hl hj hx
   have bi:=(W.bound hl hi hx).2
   have bj:=(W.bound hl hj hx).2
   unfold ax
   unfold fu at ht
   generalize aj C i x=a at *
   generalize aj C j x=b at *
   simp only[Bool.or_eq_false_iff,Bool.and_eq_false_iff,bne_eq_false_iff_eq,decide_eq_false_iff_not] at ht
   by_cases hab:a=b
   ·rw[hab]
   ·have h1:¬a < 0∧¬b < 0:=by
     rcases ht.1 with h | h
     ·exact absurd h hab
     ·exact h
    have h2:f a.toNat b.toNat=false:=by
     rcases ht.2 with (h | h) | h
     ·omega
     ·omega
     ·exact h
    rw[if_pos (by omega),if_pos (by omega)]
    have:=di (by omega)
    have:=dj (by omega)
    exact ih a.toNat b.toNat (by omega) (by omega) (by omega) h2
 intro i j hi hj
 refine⟨key _ i j (Nat.le_refl _) hi hj,fun h=> ?_⟩
 cases hf:f i j with
 |false=>rfl
 |true=>exact absurd h (hK.snd i j hf)
end
end Go.AM.B1
namespace Go.AM.B1
open Go.AM Go.AM.So
def Kq (s:ec) (w:List Nat):Prop:=∀ j x,w[j]? =some x→Ev s j x=true
def Full (s:ec) (w:List Nat):Prop:=Kq s w∧w.length=s.parts.length
def Bytes (w:List Nat):Prop:=∀ x∈w,x < 256
theorem dF {s:ec} {j x:Nat} (h:Ev s j x=true):j < s.parts.length:=by
 unfold Ev at h
 cases hp:s.parts[j]? with
 |none=>rw[hp] at h;cases h
 |some l=>exact (List.getElem?_eq_some_iff.1 hp).1
theorem EG {s:ec} {w:List Nat} (h:Kq s w):w.length≤s.parts.length:=by
 rcases Nat.eq_zero_or_pos w.length with h0 | h0
 ·omega
 ·have:=dF (h (w.length - 1) _ (List.getElem?_eq_getElem (by omega)))
  omega
theorem MO (s:ec):Kq s []:=by intro j x h;simp at h
theorem NM {s:ec} {w:List Nat} {x:Nat}:Kq s (w++[x])↔Kq s w∧Ev s w.length x=true:=by
 constructor
 ·intro h
  refine⟨fun j y hj=>h j y ?_,h w.length x (by simp)⟩
  rw[List.getElem?_append_left (List.getElem?_eq_some_iff.1 hj).1];exact hj
 ·rintro⟨h1,h2⟩ j y hj
  rcases Nat.lt_or_ge j w.length with h | h
  ·rw[List.getElem?_append_left h] at hj;exact h1 j y hj
  ·rw[List.getElem?_append_right h] at hj
   cases hq:j - w.length with
   |succ n=>rw[hq] at hj;simp at hj
   |zero=>
    rw[hq] at hj
    simp at hj
    have:j=w.length:=by omega
    subst this;subst hj;exact h2
theorem aG {s:ec} {w u:List Nat} (h:Kq s (w++u)):Kq s w:=by
 intro j y hj
 refine h j y ?_
 rw[List.getElem?_append_left (List.getElem?_eq_some_iff.1 hj).1];exact hj
theorem iP {p q:ec} (op:Mg p) (oq:Mg q) (hlt:p.parts.length≤q.parts.length) {w:List Nat} (hw:Bytes w) (hp:Full p w) (hq:Kq q w):th p q=true:=by
 have key:∀ (m i:Nat),i+m=p.parts.length→(wg p.parts q.parts m i).isSome=true:=by
  intro m
  induction m with
  |zero=>intro i _;rfl
  |succ m ih=>
   intro i hi
   have h1:i < p.parts.length:=by omega
   have h2:i < q.parts.length:=by omega
   have hwi:i < w.length:=by rw[hp.2];exact h1
   have hne:Is p.parts q.parts i≠[]:=by
    rw[WH h1 h2 (op.parts _ (List.getElem_mem h1)).2 (oq.parts _ (List.getElem_mem h2)).2]
    have k1:=hp.1 i w[i] (List.getElem?_eq_getElem hwi)
    have k2:=hq i w[i] (List.getElem?_eq_getElem hwi)
    unfold Ev at k1 k2
    rw[List.getElem?_eq_getElem h1] at k1
    rw[List.getElem?_eq_getElem h2] at k2
    exact⟨w[i],hw _ (List.getElem_mem hwi),k1,k2⟩
   rw[wg]
   cases hm:Is p.parts q.parts i with
   |nil=>exact absurd hm hne
   |cons a r=>
    have:=ih (i+1) (by omega)
    simp only[Option.isSome_map]
    exact this
 exact key _ 0 (by omega)
theorem XR {ss:List ec} (ta:ue ss) (hpre:ik ss) {p q:ec} (hp:p∈ss) (hq:q∈ss) {w:List Nat} (hw:Bytes w) (h1:Full p w) (h2:Kq q w):¬p.parts.length < q.parts.length:=by
 intro hlt
 obtain⟨i,hi,rfl⟩:=List.getElem_of_mem hp
 obtain⟨j,hj,rfl⟩:=List.getElem_of_mem hq
 have:=hpre i j hi hj hlt
 rw[iP (ta.my _ hp) (ta.my _ hq) (Nat.le_of_lt hlt) hw h1 h2] at this
 cases this
def runT (C:List (List Int)):Int→List Nat→Int
 |k,[]=>k
 |k,x::w=>if k < 0 then -2 else runT C (aj C k.toNat x) w
theorem lN {C:List (List Int)} {u:List Nat}:runT C (-2) u= -2:=by cases u <;> rfl
theorem rz (C:List (List Int)):∀ (w u:List Nat) (k:Int),runT C k (w++u)=runT C (runT C k w) u
 | [],u,k=>rfl
 |x::w,u,k=>by
  rw[List.cons_append,runT,runT]
  split
  ·rw[lN]
  ·exact rz C w u _
theorem WC (C:List (List Int)) (w:List Nat) (x:Nat) (k:Int):runT C k (w++[x])=if runT C k w < 0 then -2 else aj C (runT C k w).toNat x:=by
 rw[rz,runT]
 rfl
def SD (ss:List ec) (a:Al) (w:List Nat):Prop:=a.1=w.length∧∀ i,a.2.toNat.testBit i=true↔∃ s,ss[i]? =some s∧Kq s w
theorem SD.on {ss:List ec} {a:Al} {w:List Nat} (h:SD ss a w) (x i:Nat):CA ss a x i=true↔∃ s,ss[i]? =some s∧Kq s (w++[x]):=by
 unfold CA
 rw[Bool.and_eq_true,h.2]
 cases hs:ss[i]? with
 |none=>simp
 |some s=>
  simp only[Option.some.injEq,exists_eq_left',h.1]
  rw[NM]
theorem SD.end {ss:List ec} {a:Al} {w:List Nat} (h:SD ss a w) (x i:Nat):Ky ss a x i=true↔∃ s,ss[i]? =some s∧Full s (w++[x]):=by
 unfold Ky
 rw[Bool.and_eq_true,h.on]
 cases hs:ss[i]? with
 |none=>simp
 |some s=>
  simp only[Option.some.injEq,exists_eq_left',h.1,beq_iff_eq]
  unfold Full
  rw[List.length_append,List.length_singleton]
  constructor
  ·rintro⟨h1,h2⟩;exact⟨h1,by omega⟩
  ·rintro⟨h1,h2⟩;exact⟨h1,by omega⟩
theorem SD.CR {ss:List ec} {a:Al} {w:List Nat} (h:SD ss a w) (x:Nat):si (CA ss a x) ss.length=true↔∃ s∈ss,Kq s (w++[x]):=by
 rw[Mo]
 constructor
 ·rintro⟨j,_,h1⟩
  obtain⟨s,h2,h3⟩:=(h.on x j).1 h1
  exact⟨s,List.mem_of_getElem? h2,h3⟩
 ·rintro⟨s,h1,h2⟩
  obtain⟨j,hj,rfl⟩:=List.getElem_of_mem h1
  exact⟨j,hj,(h.on x j).2 ⟨_,List.getElem?_eq_getElem hj,h2⟩⟩
theorem SD.PN {ss:List ec} {a:Al} {w:List Nat} (h:SD ss a w) (x:Nat):si (Ky ss a x) ss.length=true↔∃ s∈ss,Full s (w++[x]):=by
 rw[Mo]
 constructor
 ·rintro⟨j,_,h1⟩
  obtain⟨s,h2,h3⟩:=(h.end x j).1 h1
  exact⟨s,List.mem_of_getElem? h2,h3⟩
 ·rintro⟨s,h1,h2⟩
  obtain⟨j,hj,rfl⟩:=List.getElem_of_mem h1
  exact⟨j,hj,(h.end x j).2 ⟨_,List.getElem?_eq_getElem hj,h2⟩⟩
theorem uG {n:Nat} (h:n≤32) (i:Nat):(Oo n).toNat.testBit i=decide (i < n):=by
 rw[ME h,Int.toNat_natCast,Nat.testBit_two_pow_sub_one]
def yR (ss:List ec) (sets:List Al) (w:List Nat) (v:Int):Prop:=
 (v= -1∧∃ s∈ss,Full s w)∨
 (0≤v∧(∃ a,sets[v.toNat]? =some a∧SD ss a w)∧(w=[]∨∃ s∈ss,Kq s w∧w.length < s.parts.length)∧∀ s∈ss,¬Full s w)∨
 (v= -2∧w≠[]∧∀ s∈ss,¬Kq s w)
section
variable {ss:List ec} {sets:List Al} {C:List (List Int)} (ta:ue ss) (hpre:ik ss) (W:gj ss sets C) (hl:C.length=sets.length)
include ta hpre W hl
theorem Wv:∀ (m:Nat) (w:List Nat),w.length=m→Bytes w→yR ss sets w (runT C 0 w)
 |0,w,hm,_=>by
  have:w=[]:=List.eq_nil_of_length_eq_zero hm
  subst this
  refine .inr (.inl ⟨Int.le_refl _,⟨_,W.first,rfl,fun i=> ?_⟩,.inl rfl,?_⟩)
  ·rw[uG ta.len i,decide_eq_true_iff]
   constructor
   ·intro h;exact⟨ss[i],List.getElem?_eq_getElem h,MO _⟩
   ·rintro⟨s,h,_⟩;exact (List.getElem?_eq_some_iff.1 h).1
  ·intro s hs hf
   have:=(ta.my s hs).lo
   have:=hf.2
   simp at this;omega
 |m+1,w,hm,hb=>by
  obtain⟨u,x,rfl⟩:∃ u x,w=u++[x]:=by
   rcases List.eq_nil_or_concat w with rfl | ⟨u,x,rfl⟩
   ·simp at hm
   ·exact⟨u,x,List.concat_eq_append⟩
  have hum:u.length=m:=by simpa using hm
  have hbu:Bytes u:=fun y hy=>hb y (by simp[hy])
  have hx:x < 256:=hb x (by simp)
  have ih:=Wv m u hum hbu
  rw[WC]
  have hne:u++[x]≠[]:=by simp
  have hlen:(u++[x]).length=u.length+1:=by simp
  rcases ih with⟨hv,s,hs,hf⟩ | ⟨hv,⟨a,ha,hd⟩,h1,h2⟩ | ⟨hv,_,h1⟩
  ·rw[hv,if_pos (by decide)]
   refine .inr (.inr ⟨rfl,hne,fun q hq hmq=> ?_⟩)
   have h1:=aG hmq
   have h2:=EG hmq
   exact XR ta hpre hs hq hbu hf h1 (by rw[← hf.2];omega)
  ·rw[if_neg (by omega)]
   have hk:=(List.getElem?_eq_some_iff.1 ha).1
   rcases W.step _ a (by omega) ha x hx with⟨q1,q2⟩ | ⟨q1,q2,q3⟩ | ⟨q1,q2,k',m',q3,q4,q5⟩
   ·rw[q2]
    refine .inr (.inr ⟨rfl,hne,fun s hs hms=> ?_⟩)
    rw[(hd.CR x).2 ⟨s,hs,hms⟩] at q1;cases q1
   ·rw[q3]
    exact .inl ⟨rfl,(hd.PN x).1 q2⟩
   ·rw[q3]
    have hnf:∀ s∈ss,¬Full s (u++[x]):=fun s hs hf=>by rw[(hd.PN x).2 ⟨s,hs,hf⟩] at q2;cases q2
    refine .inr (.inl ⟨Int.natCast_nonneg _,⟨_,by rw[Int.toNat_natCast];exact q5,?_,?_⟩,?_,hnf⟩)
    ·rw[hlen,←hd.1]
    ·intro i
     show (m':Int).toNat.testBit i=true↔_
     rw[Int.toNat_natCast,q4.bit,hd.on]
    ·obtain⟨s,hs,hms⟩:=(hd.CR x).1 q1
     refine .inr ⟨s,hs,hms,?_⟩
     have:=EG hms
     have:=hnf s hs
     rcases Nat.lt_or_ge (u++[x]).length s.parts.length with h | h
     ·exact h
     ·exact absurd ⟨hms,by omega⟩ this
  ·rw[hv,if_pos (by decide)]
   exact .inr (.inr ⟨rfl,hne,fun s hs hms=>h1 s hs (aG hms)⟩)
end
end Go.AM.B1
namespace Go.AM.B1
open Go.AM Go.AM.So
section
variable {ss:List ec} {sets:List Al} {C:List (List Int)} (W:gj ss sets C) (hl:C.length=sets.length)
include W hl
theorem gj.gO {k:Nat} (hk:k < C.length):0≤cls C k:=((W.xD hl).Pr hk).1
theorem gj.vF:∀ (w:List Nat) (i j:Nat),Bytes w→i < C.length→j < C.length→cls C i=cls C j→(runT C i w= -1↔runT C j w= -1)
 | [],i,j,_,_,_,_=>by
   show ((i:Int)= -1↔(j:Int)= -1)
   constructor <;> intro h <;> omega
 |x::w,i,j,hb,hi,hj,h=>by
  have hx:x < 256:=hb x (by simp)
  have hbw:Bytes w:=fun y hy=>hb y (by simp[hy])
  have hn:=(W.dK hl hi hj).1 h x hx
  have b1:=W.bound hl hi hx
  have b2:=W.bound hl hj hx
  rw[runT,runT,if_neg (by omega),if_neg (by omega),Int.toNat_natCast,Int.toNat_natCast]
  unfold ax at hn
  by_cases h1:0≤aj C i x
  ·by_cases h2:0≤aj C j x
   ·rw[if_pos h1,if_pos h2] at hn
    have:=gj.vF w (aj C i x).toNat (aj C j x).toNat hbw (by omega) (by omega) hn
    rw[Int.toNat_of_nonneg h1,Int.toNat_of_nonneg h2] at this
    exact this
   ·rw[if_pos h1,if_neg h2] at hn
    have:=W.gO hl (k:=(aj C i x).toNat) (by omega)
    omega
  ·by_cases h2:0≤aj C j x
   ·rw[if_neg h1,if_pos h2] at hn
    have:=W.gO hl (k:=(aj C j x).toNat) (by omega)
    omega
   ·rw[if_neg h1,if_neg h2] at hn
    rw[hn]
theorem gj.path:∀ (m k:Nat),k≤m→k < C.length→∃ w,Bytes w∧runT C 0 w=(k:Int)
 |0,k,hm,hk=>by
  have:k=0:=by omega
  subst this
  exact⟨[],by simp[Bytes],rfl⟩
 |m+1,k,hm,hk=>by
  rcases Nat.eq_zero_or_pos k with rfl | h0
  ·exact⟨[],by simp[Bytes],rfl⟩
  ·obtain⟨j,x,hj,hjC,hx,hn⟩:=W.reach k h0 (by omega)
   obtain⟨w,hw,hr⟩:=gj.path m j (by omega) hjC
   refine⟨w++[x],?_,?_⟩
   ·intro y hy
    rcases List.mem_append.1 hy with h | h
    ·exact hw y h
    ·simp at h;subst h;exact hx
   ·rw[WC,hr,if_neg (by omega),Int.toNat_natCast,hn]
end
theorem mem_some {l:List (Int×Int)} (h:Jd l):∃ x,x < 256∧Iy l x=true:=by
 obtain⟨p,hp⟩:=List.exists_mem_of_ne_nil _ h.1
 have h1:=gq h.2 p hp
 refine⟨p.1.toNat,by omega,?_⟩
 rw[Iy,h.2,Bool.true_and,Gt,Int.toNat_of_nonneg h1.1]
 exact⟨p,hp,Int.le_refl _,h1.2.1⟩
theorem EM {s:ec} (h:∀ l∈s.parts,Jd l):∃ w,Bytes w∧Full s w:=by
 have key:∀ (ls:List (List (Int×Int))),(∀ l∈ls,Jd l)→∃ w:List Nat,w.length=ls.length∧(∀ x∈w,x < 256)∧∀ (j x:Nat),w[j]? =some x→∃ l,ls[j]? =some l∧Iy l x=true:=by
  intro ls
  induction ls with
  |nil=>exact fun _=>⟨[],rfl,by simp,by simp⟩
  |cons l ls ih=>
   intro h
   obtain⟨x,hx,hm⟩:=mem_some (h l (by simp))
   obtain⟨w,h1,h2,h3⟩:=ih fun l' hl'=>h l' (by simp[hl'])
   refine⟨x::w,by simp[h1],?_,?_⟩
   ·intro y hy
    rcases List.mem_cons.1 hy with rfl | hy
    ·exact hx
    ·exact h2 y hy
   ·intro j y hj
    cases j with
    |zero=>simp at hj;subst hj;exact⟨l,rfl,hm⟩
    |succ j=>simp at hj;exact h3 j y hj
 obtain⟨w,h1,h2,h3⟩:=key s.parts h
 refine⟨w,h2,?_,h1⟩
 intro j x hj
 obtain⟨l,h4,h5⟩:=h3 j x hj
 unfold Ev
 rw[h4];exact h5
theorem AQ {ss:List ec} (h:ss≠[]):∃ s∈ss,∀ q∈ss,q.parts.length≤s.parts.length:=by
 induction ss with
 |nil=>exact absurd rfl h
 |cons a ss ih=>
  by_cases hs:ss=[]
  ·subst hs;exact⟨a,by simp,by simp⟩
  ·obtain⟨s,h1,h2⟩:=ih hs
   rcases Nat.lt_or_ge a.parts.length s.parts.length with h3 | h3
   ·refine⟨s,by simp[h1],fun q hq=> ?_⟩
    rcases List.mem_cons.1 hq with rfl | hq
    ·omega
    ·exact h2 q hq
   ·refine⟨a,by simp,fun q hq=> ?_⟩
    rcases List.mem_cons.1 hq with rfl | hq
    ·exact Nat.le_refl _
    ·exact Nat.le_trans (h2 q hq) h3
theorem gj.QE {ss:List ec} {sets:List Al} {C:List (List Int)} (ta:ue ss) (hpre:ik ss) (W:gj ss sets C) (hl:C.length=sets.length) {k:Nat} (h0:0 < k) (hk:k < C.length):cls C 0≠cls C k:=by
 intro he
 obtain⟨w,hw,hr⟩:=W.path hl k k (Nat.le_refl _) hk
 have hwne:w≠[]:=by
  rintro rfl
  have:(0:Int)=(k:Int):=hr
  omega
 have hne:ss≠[]:=by
  rintro rfl
  rcases Wv ta hpre W hl _ w rfl hw with⟨h1,_⟩ | ⟨_,_,h1,_⟩ | ⟨h1,_⟩
  ·omega
  ·rcases h1 with h1 | ⟨s,hs,_⟩
   ·exact hwne h1
   ·cases hs
  ·omega
 obtain⟨s,hs,hmax⟩:=AQ hne
 obtain⟨u,hu,hf⟩:=EM (ta.my s hs).parts
 have h1:runT C 0 u= -1:=by
  rcases Wv ta hpre W hl _ u rfl hu with⟨h1,_⟩ | ⟨_,_,_,h1⟩ | ⟨_,_,h1⟩
  ·exact h1
  ·exact absurd hf (h1 s hs)
  ·exact absurd hf.1 (h1 s hs)
 have h2:runT C k u= -1:=(W.vF hl u 0 k hu (by omega) hk he).1 h1
 have h3:runT C 0 (w++u)= -1:=by rw[rz,hr];exact h2
 have hb:Bytes (w++u):=by
  intro y hy
  rcases List.mem_append.1 hy with h | h
  ·exact hw y h
  ·exact hu y h
 rcases Wv ta hpre W hl _ (w++u) rfl hb with⟨_,q,hq,hfq⟩ | ⟨h4,_⟩ | ⟨h4,_⟩
 ·have h5:=hmax q hq
  have h6:=hfq.2
  have h7:=hf.2
  have h8:0 < w.length:=by
   cases w with
   |nil=>exact absurd rfl hwne
   |cons=>simp
  rw[List.length_append] at h6
  omega
 ·omega
 ·omega
end Go.AM.B1
namespace Go.AM.B1
open Go.AM Go.AM.So
attribute [local irreducible] ke
def Wz (n i:Nat):List AV:=(List.range i).map fun k=> .own (2 * k+1) n
theorem OI {n i m:Nat} (h:2 * i+1≤m) (fl:Nat) (nl:Bool):pa m (.seq 1 false (Wz n i) fl nl)=some (.seq 1 false (Wz n i) fl nl):=by
 have:(Wz n i).all (AV.Wc m deep)=true:=by
  rw[List.all_eq_true]
  intro v hv
  obtain⟨k,hk,rfl⟩:=List.mem_map.1 hv
  have:k < i:=by simpa using hk
  show decide (2 * k+1 < m)=true
  exact decide_eq_true (by omega)
 simp[pa,this]
structure fS (H:List aa) (n i:Nat):Prop where
 len:H.length=2 * i+1
 hd:∃ nl,H[0]? =some (.seq 1 false (Wz n i) 0 nl)∧(nl=true→i=0)
 row:∀ k,k < i→H[2 * k+1]? =some (Ax n (fun _=>false) 0)
 Wt:Kc H
theorem fS.step {H:List aa} {n i:Nat} (h:fS H n i) (Y:aa) (hY:Y= .seq 1 false [.own (2 * i+1) n] 0 false):
 fS ((H++[Ax n (fun _=>false) 0]++[Y]).set 0 (.seq 1 false (Wz n (i+1)) 0 false)) n (i+1):=by
 have hl:=h.len
 refine⟨by simp[hl];omega,⟨false,?_,fun h=>by cases h⟩,?_,?_⟩
 ·rw[List.getElem?_set_self (by simp)]
 ·intro k hk
  rw[List.getElem?_set_ne (by omega)]
  rcases Nat.lt_or_ge k i with h1 | h1
  ·rw[List.getElem?_append_left (by simp;omega),List.getElem?_append_left (by omega)]
   exact h.row k h1
  ·have:k=i:=by omega
   subst this
   rw[List.getElem?_append_left (by simp;omega),List.getElem?_append_right (by omega),hl,Nat.sub_self]
   rfl
 ·intro m hm o ho
  simp only[List.length_set,List.length_append,List.length_singleton,hl] at hm
  rcases List.mem_or_eq_of_mem_set ho with h1 | h1
  ·rw[List.mem_append,List.mem_append,List.mem_singleton,List.mem_singleton] at h1
   rcases h1 with (h1 | h1) | h1
   ·exact h.Wt m (by omega) o h1
   ·subst h1;exact iG _ _ _ _
   ·subst h1 hY
    have:([AV.own (2 * i+1) n]).all (AV.Wc m deep)=true:=by
     show (decide (2 * i+1 < m)&&true)=true
     rw[decide_eq_true (by omega)];rfl
    simp[pa,this]
  ·subst h1;exact OI (by omega) _ _
theorem KH:∀ l:List PV,chunk 1 false l.length l=l
 | []=>rfl
 |a::l=>by simp only[List.length_cons,chunk,Bool.false_eq_true,if_false,List.headD_cons,List.drop_succ_cons,List.drop_zero,KH l]
theorem lH {α β γ:Type} (f:β→Option γ) (g:α→β) (k:α→γ):∀ (l:List α),(∀ a∈l,f (g a)=some (k a))→Va f (l.map g)=some (l.map k)
 | [],_=>rfl
 |a::l,h=>by
  rw[List.map_cons,Va,h a (by simp),lH f g k l (fun x hx=>h x (by simp[hx]))];rfl
def XS (n:Nat) (f:Nat→Nat→Bool):PV:= .lit 1 ((List.range n).map fun i=> .lit 1 (Au n (f i)))
theorem uO.Ab {H:List aa} {n:Nat} {f:Nat→Nat→Bool} (h:uO H n f):Go.AM.Ab H 6 (.own 0 n)=some (XS n f):=by
 obtain⟨nl,hnl,h0⟩:=h.hd
 subst hnl
 have hrow:∀ k∈List.range n,Go.AM.Ab H 5 (.own (2 * k+1) n)=some (.lit 1 (Au n (f k))):=by
  intro k hk
  obtain⟨fl,hf,h1⟩:=h.row k (by simpa using hk)
  simp only[Go.AM.Ab,h1,Ax]
  rw[if_pos ⟨by rw[List.length_map,Sj];omega,rfl⟩,yE]
  simp only[Bool.false_eq_true,if_false,Option.map_some]
  have:=KH (Au n (f k))
  rw[Sj] at this
  rw[this]
 simp only[Go.AM.Ab,h0]
 rw[if_pos ⟨by rw[Vz];omega,rfl⟩,owns,lH _ _ _ _ hrow]
 simp only[Bool.false_eq_true,if_false,Option.map_some,XS]
 have:=KH ((List.range n).map fun i=>PV.lit 1 (Au n (f i)))
 rw[List.length_map,List.length_range] at this
 rw[this]
end Go.AM.B1
namespace Go.AM.B1
open Go.AM
end Go.AM.B1
