/- What functions of the program compute. -/
import Derived.Test.YtijlhblleiaomaaGreatN6
import Derived.Test.YtijlhblleiaomaaGreatN7
import Derived.Test.YtijlhblleiaomaaGreatN3
import Derived.Test.YtijlhblleiaomaaGreatN4
set_option linter.unusedVariables false
set_option linter.unusedSimpArgs false
namespace Go.AM.B1
open Go.AM
def Mm (Pb:List Int) (to:Int):Int:=if 0≤to then Pb.getD to.toNat 0 else to
theorem Ns {Pb row:List Int} {i:Nat}:∀ (xs:List Nat) (C:List Int) (p:Nat),p < C.length→
 (Lc Pb row i xs C)[p]? =if h:i * 256≤p∧p - i * 256∈xs∧p - i * 256 < row.length then (if 0≤row.getD (p - i * 256) 0 then some (Mm Pb (row.getD (p - i * 256) 0)) else C[p]?) else C[p]?
 | [],C,p,hp=>by simp[Lc]
 |x::xs,C,p,hp=>by
  rw[Lc]
  have key:∀ C',C'.length=C.length→(p≠i * 256+x→C'[p]? =C[p]?)→(p=i * 256+x→C'[p]? =if x < row.length then (if 0≤row.getD x 0 then some (Mm Pb (row.getD x 0)) else C[p]?) else C[p]?)→
   (Lc Pb row i xs C')[p]? =if h:i * 256≤p∧p - i * 256∈x::xs∧p - i * 256 < row.length then (if 0≤row.getD (p - i * 256) 0 then some (Mm Pb (row.getD (p - i * 256) 0)) else C[p]?) else C[p]? :=by
   intro C' hl h1 h2
   rw[Ns xs C' p (by omega)]
   by_cases hx:p=i * 256+x
   ·have e:p - i * 256=x:=by omega
    have h3:=h2 hx
    rw[e,h3]
    have hle:i * 256≤p:=by omega
    by_cases hr:x < row.length
    ·simp only[hle,hr,and_true,true_and,List.mem_cons,true_or,dite_true,if_true]
     by_cases h0:0≤row.getD x 0
     ·simp only[h0,if_true,ite_self,dite_eq_ite]
     ·simp only[h0,if_false,ite_self,dite_eq_ite]
    ·simp[hr]
   ·rw[h1 hx]
    have:(i * 256≤p∧p - i * 256∈xs∧p - i * 256 < row.length)=(i * 256≤p∧p - i * 256∈x::xs∧p - i * 256 < row.length):=by
     refine propext ⟨fun h=>⟨h.1,by simp[h.2.1],h.2.2⟩,fun h=>⟨h.1,?_,h.2.2⟩⟩
     rcases List.mem_cons.1 h.2.1 with h4 | h4
     ·omega
     ·exact h4
    simp only[this]
  cases hr:row[x]? with
  |none=>
   refine key _ rfl (fun _=>rfl) (fun hx=> ?_)
   have:¬x < row.length:=by
    intro h;rw[List.getElem?_eq_getElem h] at hr;cases hr
   rw[if_neg this]
  |some to=>
   have hx2:x < row.length:=(List.getElem?_eq_some_iff.1 hr).1
   have hto:row.getD x 0=to:=by rw[List.getD_eq_getElem?_getD,hr];rfl
   simp only
   by_cases h0:0≤to
   ·rw[if_pos h0]
    refine key _ (by simp) (fun hx=>by rw[List.getElem?_set_ne (by omega)]) (fun hx=> ?_)
    rw[if_pos hx2,hto,if_pos h0,hx,List.getElem?_set_self (by omega),Mm,if_pos h0]
   ·rw[if_neg h0]
    refine key _ rfl (fun _=>rfl) (fun hx=> ?_)
    rw[if_pos hx2,hto,if_neg h0]
theorem fp {C:List Int} {i x:Nat} (hx:x < 256):(Ja C i)[x]? =C[i * 256+x]? :=by
 unfold Ja
 rw[List.getElem?_take_of_lt hx,List.getElem?_drop]
theorem NG {n:Nat} {Pb C:List Int} {i:Nat} (hC:C.length=n * 256) (hi:i < n):
 Ja (Lc Pb (Ja C i) i (List.range 256) C) i=(Ja C i).map (Mm Pb):=by
 apply List.ext_getElem?
 intro x
 by_cases hx:x < 256
 ·rw[fp hx,Ns _ _ _ (by omega),List.getElem?_map]
  have e:i * 256+x - i * 256=x:=by omega
  have hl:=pg hC hi
  rw[e,dif_pos ⟨by omega,by simpa using hx,by omega⟩]
  have hg:(Ja C i)[x]? =some ((Ja C i).getD x 0):=by
   rw[List.getD_eq_getElem?_getD,List.getElem?_eq_getElem (by omega)];rfl
  have hg2:=hg
  rw[fp hx] at hg2
  rw[hg2,hg]
  by_cases h0:0≤(Ja C i).getD x 0
  ·rw[if_pos h0];rfl
  ·rw[if_neg h0,Option.map_some,Mm,if_neg h0]
 ·rw[List.getElem?_eq_none,List.getElem?_eq_none]
  ·rw[List.length_map,pg hC hi];omega
  ·rw[pg (n:=n) (by rw[Bj,hC]) hi];omega
theorem GB {n:Nat} {Pb row C:List Int} {i j:Nat} (hC:C.length=n * 256) (hj:j < n) (hij:j≠i) (hr:row.length=256):
 Ja (Lc Pb row i (List.range 256) C) j=Ja C j:=by
 apply List.ext_getElem?
 intro x
 by_cases hx:x < 256
 ·rw[fp hx,fp hx,Ns _ _ _ (by omega)]
  rw[dif_neg]
  rintro⟨h1,h2,h3⟩
  omega
 ·rw[List.getElem?_eq_none,List.getElem?_eq_none]
  ·rw[pg hC hj];omega
  ·rw[pg (n:=n) (by rw[Bj,hC]) hj];omega
structure Iu (n:Nat) (C0:List Int) (i:Nat) (s:PG):Prop where
 hC:s.C.length=n * 256
 hk:s.Pb.length=n
 hi:∀ j,i≤j→j < n→Ja s.C j=(Ja C0 j).map (Mm s.Pb)
 lo:∀ j,j < i→Ja s.C j=Ja C0 j
 look:∀ j,i≤j→j < n→Vh (Ja s.C j) s.M=some (s.Pb.getD j 0)
 inj:∀ p∈s.M,∀ q∈s.M,p.2=q.2→p.1=q.1
 rep:∀ p∈s.M,(i:Int)≤p.2∧p.2 < n∧Ja s.C p.2.toNat=p.1
def YJ (n:Nat) (C0:List Int):Prop:=∀ j,j < n→∀ to∈Ja C0 j,0≤to→(j:Int) < to∧to < n
theorem IK {Pb:List Int} {i:Nat} {v to:Int} (h:0≤to→to.toNat≠i):Mm (Pb.set i v) to=Mm Pb to:=by
 unfold Mm
 split
 ·next h0=>rw[List.getD_eq_getElem?_getD,List.getD_eq_getElem?_getD,List.getElem?_set_ne (Ne.symm (h h0))]
 ·rfl
theorem TC {a:List Int} {M N:List (List Int×Int)}:Vh a (M++N)=(Vh a M).or (Vh a N):=by
 induction M with
 |nil=>simp[Vh]
 |cons p M ih=>
  rw[List.cons_append,Vh,Vh]
  split
  ·rfl
  ·exact ih
theorem Iu.step {n:Nat} {C0:List Int} (hlat:YJ n C0) {i:Nat} {s:PG} (hin:i < n) (h:Iu n C0 (i+1) s):Iu n C0 i (Di i s):=by
 have hrow:Ja s.C i=Ja C0 i:=h.lo i (by omega)
 have hrl:(Ja C0 i).length=256:=by rw[← hrow];exact pg h.hC hin
 have hC2:(Lc s.Pb (Ja s.C i) i (List.range 256) s.C).length=n * 256:=by rw[Bj,h.hC]
 have hr1:=NG (Pb:=s.Pb) h.hC hin
 have hr2:∀ j,j < n→j≠i→Ja (Lc s.Pb (Ja s.C i) i (List.range 256) s.C) j=Ja s.C j:=fun j hj hji=>GB h.hC hj hji (by rw[hrow];exact hrl)
 have hl1:=@so i s
 have hl2:=@zo i s
 generalize Lc s.Pb (Ja s.C i) i (List.range 256) s.C=C2 at *
 have hms:∀ v j,i≤j→j < n→(Ja C0 j).map (Mm (s.Pb.set i v))=(Ja C0 j).map (Mm s.Pb):=by
  intro v j hij hj
  apply List.map_congr_left
  intro to hto
  apply IK
  intro h0
  have:=hlat j hj to hto h0
  omega
 have main:∀ v M',Vh (Ja C2 i) M'=some v→(∀ j,i+1≤j→j < n→Vh (Ja C2 j) M'=Vh (Ja s.C j) s.M)→
  (∀ p∈M',∀ q∈M',p.2=q.2→p.1=q.1)→(∀ p∈M',(i:Int)≤p.2∧p.2 < n∧Ja C2 p.2.toNat=p.1)→Iu n C0 i ⟨C2,s.Pb.set i v,M'⟩:=by
  intro v M' h1 h2 h3 h4
  refine⟨hC2,by simp[h.hk],?_,?_,?_,h3,h4⟩
  ·intro j hij hj
   show Ja C2 j=(Ja C0 j).map (Mm (s.Pb.set i v))
   rw[hms v j hij hj]
   by_cases hji:j=i
   ·subst hji;rw[hr1,hrow]
   ·rw[hr2 j hj hji,h.hi j (by omega) hj]
  ·intro j hj
   show Ja C2 j=_
   rw[hr2 j (by omega) (by omega),h.lo j (by omega)]
  ·intro j hij hj
   show Vh (Ja C2 j) M'=some ((s.Pb.set i v).getD j 0)
   by_cases hji:j=i
   ·subst hji
    rw[h1,List.getD_eq_getElem?_getD,List.getElem?_set_self (by rw[h.hk];exact hj)];rfl
   ·rw[h2 j (by omega) hj,h.look j (by omega) hj,List.getD_eq_getElem?_getD,List.getD_eq_getElem?_getD,List.getElem?_set_ne (Ne.symm hji)]
 cases hlk:Vh (Ja C2 i) s.M with
 |some v=>
  rw[hl1 hlk]
  refine main v s.M hlk (fun j h1 h2=>by rw[hr2 j h2 (by omega)]) h.inj ?_
  intro p hp
  obtain⟨h1,h2,h3⟩:=h.rep p hp
  exact⟨by omega,h2,by rw[hr2 _ (by omega) (by omega),h3]⟩
 |none=>
  rw[hl2 hlk]
  refine main i _ (by rw[TC,hlk];simp[Vh]) (fun j h1 h2=> ?_) ?_ ?_
  ·rw[hr2 j h2 (by omega),TC,h.look j h1 h2];rfl
  ·intro p hp q hq hpq
   rcases List.mem_append.1 hp with hp | hp <;> rcases List.mem_append.1 hq with hq | hq
   ·exact h.inj p hp q hq hpq
   ·simp at hq;subst hq
    have:=(h.rep p hp).1
    simp only at hpq;omega
   ·simp at hp;subst hp
    have:=(h.rep q hq).1
    simp only at hpq;omega
   ·simp at hp hq;subst hp hq;rfl
  ·intro p hp
   rcases List.mem_append.1 hp with hp | hp
   ·obtain⟨h1,h2,h3⟩:=h.rep p hp
    exact⟨by omega,h2,by rw[hr2 _ (by omega) (by omega),h3]⟩
   ·simp at hp;subst hp
    exact⟨by simp,by simp;omega,by simp⟩
theorem Iu.go {n:Nat} {C0:List Int} (hlat:YJ n C0):∀ (k:Nat) (s:PG),k≤n→Iu n C0 k s→Iu n C0 0 (uh k s)
 |0,s,_,h=>h
 |k+1,s,hk,h=>Iu.go hlat k _ (by omega) (h.step hlat (by omega))
theorem JM {n:Nat} {C0:List Int} (hlat:YJ n C0) (hC:C0.length=n * 256):Iu n C0 0 (bg n C0):=by
 refine Iu.go hlat n _ (Nat.le_refl _) ⟨hC,by simp,fun j h1 h2=>by omega,fun j hj=>rfl,fun j h1 h2=>by omega,by simp,by simp⟩
theorem Iu.SG {n:Nat} {C0:List Int} {s:PG} (h:Iu n C0 0 s) {j k:Nat} (hj:j < n) (hk:k < n):s.Pb.getD j 0=s.Pb.getD k 0↔Ja s.C j=Ja s.C k:=by
 have h1:=h.look j (by omega) hj
 have h2:=h.look k (by omega) hk
 constructor
 ·intro e
  obtain⟨p,hp,e1,e2⟩:=zp h1
  obtain⟨q,hq,e3,e4⟩:=zp h2
  rw[← e1,←e3]
  exact h.inj p hp q hq (by rw[e2,e4,e])
 ·intro e
  rw[e,h2] at h1
  exact (Option.some.inj h1).symm
theorem Iu.Pr {n:Nat} {C0:List Int} {s:PG} (h:Iu n C0 0 s) {j:Nat} (hj:j < n):0≤s.Pb.getD j 0∧s.Pb.getD j 0 < n∧Ja s.C (s.Pb.getD j 0).toNat=Ja s.C j:=by
 obtain⟨p,hp,e1,e2⟩:=zp (h.look j (by omega) hj)
 obtain⟨h1,h2,h3⟩:=h.rep p hp
 rw[← e2,←e1]
 exact⟨by omega,h2,h3⟩
end Go.AM.B1
namespace Go.AM.B1
open Go.AM
theorem Mq (b:Int):∀ (l m:List je),Qe b (l++m)=(Qe b l).or (Qe b m)
 | [],m=>by simp[Qe]
 |e::l,m=>by
  rw[List.cons_append,Qe,Qe]
  split
  ·rfl
  ·exact Mq b l m
theorem Tn {b:Int}:∀ {l:List je},(∀ e∈l,e.hi < b)→Qe b l=none
 | [],_=>rfl
 |e::l,h=>by
  have:=h e (by simp)
  rw[Qe,if_neg (by omega)]
  exact Tn fun x hx=>h x (by simp[hx])
theorem dA {b:Int}:∀ {l:List je},l.Pairwise (fun a c=>a.hi < c.lo)→∀ e∈l,e.lo≤b→b≤e.hi→Qe b l=some e.to
 |a::l,h,e,he,h1,h2=>by
  rw[List.pairwise_cons] at h
  rw[Qe]
  rcases List.mem_cons.1 he with rfl | he
  ·rw[if_pos ⟨h1,h2⟩]
  ·have:=h.1 e he
   rw[if_neg (by omega)]
   exact dA h.2 e he h1 h2
theorem Vs {b t:Int}:∀ {l:List je},Qe b l=some t→∃ e∈l,e.lo≤b∧b≤e.hi∧e.to=t
 |e::l,h=>by
  rw[Qe] at h
  split at h
  ·next hc=>exact⟨e,by simp,hc.1,hc.2,Option.some.inj h⟩
  ·obtain⟨x,hx,h1⟩:=Vs h
   exact⟨x,by simp[hx],h1⟩
structure pF (row:List Int) (n:Nat) (l:List je):Prop where
 iw:∀ e∈l,0≤e.lo∧e.lo≤e.hi∧e.hi < n∧e.to≠ -2
 ord:l.Pairwise (fun a b=>a.hi < b.lo)
 tight:∀ (k:Nat) a b,l[k]? =some a→l[k+1]? =some b→b.lo=a.hi+1→b.to≠a.to
 step:∀ x:Nat,x < n→Qe x l=if row.getD x 0= -2 then none else some (row.getD x 0)
theorem CC {l:List je} {e:je} (h:l.getLast? =some e):∃ m,l=m++[e]:=by
 have hne:l≠[]:=by rintro rfl;simp at h
 rw[List.getLast?_eq_some_getLast hne] at h
 exact⟨l.dropLast,by rw[← Option.some.inj h];exact (List.dropLast_concat_getLast hne).symm⟩
theorem iH {α:Type} {m:List α} {e a b:α} {k:Nat} (h1:(m++[e])[k]? =some a) (h2:(m++[e])[k+1]? =some b):m[k]? =some a∧((m[k+1]? =some b)∨(k+1=m.length∧b=e)):=by
 have hk:k+1 < (m++[e]).length:=(List.getElem?_eq_some_iff.1 h2).1
 simp at hk
 rw[List.getElem?_append_left (by omega)] at h1
 refine⟨h1,?_⟩
 rcases Nat.lt_or_ge (k+1) m.length with h | h
 ·rw[List.getElem?_append_left h] at h2;exact .inl h2
 ·have:k+1=m.length:=by omega
  rw[List.getElem?_append_right h,this] at h2
  simp at h2
  exact .inr ⟨this,h2.symm⟩
theorem pF.push {row:List Int} {n:Nat} {l:List je} (h:pF row n l) {to:Int} (ht:row.getD n 0=to) (h2:to≠ -2) (hl:∀ e,l.getLast? =some e→¬(e.to=to∧e.hi=(n:Int) - 1)):pF row (n+1) (l++[⟨n,n,to⟩]):=by
 refine⟨?_,?_,?_,?_⟩
 ·intro e he
  rcases List.mem_append.1 he with he | he
  ·have:=h.iw e he;exact⟨this.1,this.2.1,by omega,this.2.2.2⟩
  ·simp at he;subst he;simp;exact⟨by omega,h2⟩
 ·rw[List.pairwise_append]
  refine⟨h.ord,by simp,?_⟩
  intro a ha b hb
  simp at hb;subst hb
  have:=h.iw a ha;simp;omega
 ·intro k a b h1 h3 h4
  obtain⟨h5,h6 | ⟨h6,rfl⟩⟩:=iH h1 h3
  ·exact h.tight k a b h5 h6 h4
  ·have hla:l.getLast? =some a:=by rw[List.getLast?_eq_getElem?,←h5];congr 1;omega
   intro h7
   simp only at h4 h7
   exact hl a hla ⟨h7.symm,by omega⟩
 ·intro x hx
  rw[Mq]
  rcases Nat.lt_or_ge x n with hxn | hxn
  ·rw[h.step x hxn]
   split
   ·simp only[Option.none_or,Qe];rw[if_neg (by omega)]
   ·rfl
  ·have:x=n:=by omega
   subst this
   rw[Tn fun e he=>by have:=h.iw e he;omega,Option.none_or,Qe,if_pos (by simp),ht,if_neg h2]
theorem pF.next {row:List Int} {n:Nat} {l:List je} (h:pF row n l):pF row (n+1) (Ek n (row.getD n 0) l):=by
 obtain⟨to,ht⟩:∃ to,row.getD n 0=to:=⟨_,rfl⟩
 rw[ht]
 unfold Ek
 by_cases h2:to= -2
 ·rw[if_pos h2]
  refine⟨fun e he=>by have:=h.iw e he;exact⟨this.1,this.2.1,by omega,this.2.2.2⟩,h.ord,h.tight,?_⟩
  intro x hx
  rcases Nat.lt_or_ge x n with hxn | hxn
  ·exact h.step x hxn
  ·have:x=n:=by omega
   subst this
   rw[Tn fun e he=>by have:=h.iw e he;omega,ht,if_pos h2]
 ·rw[if_neg h2]
  cases hl:l.getLast? with
  |none=>exact h.push ht h2 fun e he=>by rw[hl] at he;cases he
  |some e=>
   by_cases hc:e.to=to∧e.hi=(n:Int) - 1
   ·simp only[hc,and_self,if_true]
    obtain⟨m,rfl⟩:=CC hl
    rw[List.dropLast_concat]
    have hr:=h.iw e (by simp)
    have ho:=List.pairwise_append.1 h.ord
    have hlt:∀ a∈m,a.hi < e.lo:=fun a ha=>ho.2.2 a ha e (by simp)
    refine⟨?_,?_,?_,?_⟩
    ·intro x hx
     rcases List.mem_append.1 hx with hx | hx
     ·have:=h.iw x (by simp[hx]);exact⟨this.1,this.2.1,by omega,this.2.2.2⟩
     ·simp at hx;subst hx;simp only;exact⟨hr.1,by omega,by omega,h2⟩
    ·rw[List.pairwise_append]
     refine⟨ho.1,by simp,?_⟩
     intro a ha b hb
     simp at hb;subst hb
     exact hlt a ha
    ·intro k a b h1 h3 h4
     obtain⟨h5,h6 | ⟨h6,rfl⟩⟩:=iH h1 h3
     ·have hk1:=(List.getElem?_eq_some_iff.1 h6).1
      exact h.tight k a b (by rw[List.getElem?_append_left (by omega)];exact h5) (by rw[List.getElem?_append_left hk1];exact h6) h4
     ·have:=h.tight k a e (by rw[List.getElem?_append_left (by omega)];exact h5) (by rw[List.getElem?_append_right (by omega),h6];simp) h4
      rw[hc.1] at this;exact this
    ·intro x hx
     rw[Mq]
     rcases Nat.lt_or_ge x n with hxn | hxn
     ·rw[← h.step x hxn,Mq]
      congr 1
      simp only[Qe,hc.1]
      by_cases h3:e.lo≤(x:Int)
      ·rw[if_pos ⟨h3,by omega⟩,if_pos ⟨h3,by omega⟩]
      ·rw[if_neg fun q=>h3 q.1,if_neg fun q=>h3 q.1]
     ·have:x=n:=by omega
      subst this
      rw[Tn fun a ha=>by have:=hlt a ha;omega,Option.none_or,Qe]
      simp only
      rw[if_pos ⟨by omega,Int.le_refl _⟩,ht,if_neg h2]
   ·simp only[hc,if_false]
    exact h.push ht h2 fun e' he'=>by rw[hl] at he';injection he' with he';subst he';exact hc
theorem Rs (row:List Int):∀ (xs ys:List Nat) (l:List je),Md row (xs++ys) l=Md row ys (Md row xs l)
 | [],ys,l=>rfl
 |x::xs,ys,l=>by rw[List.cons_append,Md,Md,Rs row xs]
theorem vC (row:List Int):∀ n:Nat,pF row n (Md row (List.range n) [])
 |0=>⟨by simp[Md],by simp[Md],by simp[Md],by omega⟩
 |n+1=>by
  rw[List.range_succ,Rs]
  exact (vC row n).next
theorem Pw (row:List Int):pF row 256 (Pe row):=vC row 256
def Ow (m:Int) (l:List je):Int:=l.foldl (fun m e=>if e.to=m then m+1 else m) m
theorem Sw (m:Int) (l:List je) (e:je):Ow m (l++[e])=if e.to=Ow m l then Ow m l+1 else Ow m l:=by
 unfold Ow;rw[List.foldl_append];rfl
def iu:Int→List je→Prop
 |_,[]=>True
 |m,e::l=>e.to≤m∧iu (if e.to=m then m+1 else m) l
theorem Iq:∀ {m:Int} {l:List je} {e:je},iu m (l++[e])↔iu m l∧e.to≤Ow m l
 |m,[],e=>by simp[iu,Ow]
 |m,a::l,e=>by
  show (a.to≤m∧iu _ (l++[e]))↔_
  rw[Iq];exact and_assoc.symm
theorem SB {row:List Int} {g:Nat→Int} (h0:∀ x,0≤g x):∀ n:Nat,(∀ x,x < n→row.getD x 0≤g x)→(∀ x,x < n→g (x+1)=if row.getD x 0=g x then g x+1 else g x)→
 Ow (g 0) (Md row (List.range n) [])=g n∧iu (g 0) (Md row (List.range n) [])∧(∀ e∈Md row (List.range n) [],e.to < g n)
 |0,_,_=>⟨rfl,trivial,by simp[Md]⟩
 |n+1,h1,h2=>by
  obtain⟨i1,i2,i3⟩:=SB h0 n (fun x hx=>h1 x (by omega)) (fun x hx=>h2 x (by omega))
  have hn:=h1 n (by omega)
  have hg:=h2 n (by omega)
  rw[List.range_succ,Rs]
  generalize Md row (List.range n) []=l at *
  show Ow (g 0) (Ek n (row.getD n 0) l)=_∧iu (g 0) (Ek n (row.getD n 0) l)∧∀ e∈Ek n (row.getD n 0) l,_
  generalize row.getD n 0=to at *
  have hpush:Ow (g 0) (l++[⟨n,n,to⟩])=g (n+1)∧iu (g 0) (l++[⟨n,n,to⟩])∧(∀ e∈l++[⟨n,n,to⟩],e.to < g (n+1)):=by
   refine⟨by rw[Sw,i1,hg],Iq.2 ⟨i2,by rw[i1];exact hn⟩,?_⟩
   intro e he
   rcases List.mem_append.1 he with he | he
   ·have:=i3 e he;rw[hg];split <;> omega
   ·simp at he;subst he;simp only;rw[hg];split <;> omega
  unfold Ek
  by_cases h3:to= -2
  ·have:=h0 n
   rw[if_pos h3,hg,if_neg (by omega)]
   exact⟨i1,i2,i3⟩
  ·rw[if_neg h3]
   cases hl:l.getLast? with
   |none=>exact hpush
   |some e=>
    simp only
    split
    ·next hc=>
     obtain⟨m,rfl⟩:=CC hl
     have h4:=i3 e (by simp)
     rw[List.dropLast_concat,hg,if_neg (by omega)]
     rw[Sw] at i1
     rw[Iq] at i2
     refine⟨by rw[Sw];exact i1,Iq.2 i2,?_⟩
     intro x hx
     rcases List.mem_append.1 hx with hx | hx
     ·exact i3 x (by simp[hx])
     ·simp at hx;subst hx;exact h4
    ·exact hpush
end Go.AM.B1
namespace Go.AM.B1
open Go.AM Go.AM.So
def Zp (g:Nat→Int) (e:je):Nat→Int:=fun b=>if e.lo≤(b:Int)∧(b:Int)≤e.hi then e.to else g b
theorem SC {b:Nat}:∀ (l:List je) (g:Nat→Int),l.Pairwise (fun a c=>a.hi < c.lo)→l.foldl Zp g b=(Qe (b:Int) l).getD (g b)
 | [],g,_=>rfl
 |e::l,g,h=>by
  rw[List.pairwise_cons] at h
  rw[List.foldl_cons,SC l _ h.2,Qe]
  by_cases hc:e.lo≤(b:Int)∧(b:Int)≤e.hi
  ·rw[if_pos hc]
   have:Qe (b:Int) l=none:=by
    cases hs:Qe (b:Int) l with
    |none=>rfl
    |some t=>
     obtain⟨x,hx,h1,h2,_⟩:=Vs hs
     have:=h.1 x hx
     omega
   rw[this]
   show Zp g e b=e.to
   unfold Zp;rw[if_pos hc]
  ·rw[if_neg hc]
   have:Zp g e b=g b:=by unfold Zp;rw[if_neg hc]
   rw[this]
def Yh (l:List je) (b:Nat):Int:=(Qe (b:Int) l).getD (-2)
structure Qj (l:List je):Prop where
 iw:∀ e∈l,0≤e.lo∧e.lo≤e.hi∧e.hi < 256∧ -1≤e.to∧e.to≤64
 ord:l.Pairwise (fun a b=>a.hi < b.lo)
def b8 (g:Nat→Int):aa:= .box (cellsOf 256 fun b=> .pv (.int .i8 (g b)))
theorem lu {n:Nat} {g g':Nat→AV} (h:∀ b,b < n→g b=g' b):cellsOf n g=cellsOf n g':=by
 unfold cellsOf
 exact List.map_congr_left fun b hb=>h b (List.mem_range.1 hb)
theorem Rp {g g':Nat→Int} (h:∀ b,b < 256→g b=g' b):b8 g=b8 g':=by
 unfold b8;rw[lu fun b hb=>by rw[h b hb]]
theorem aS (g:Nat→Int) (n:Nat):pa n (b8 g)=some (b8 g):=by
 have:=Zm n ((List.range 256).map fun b=>PV.int .i8 (g b))
 rw[List.map_map] at this
 exact this
theorem Ke {H:List aa} {id:Nat} {c:List AV} (h:H[id]? =some (.box c)) (d o:Nat):place H d (.ptr id o)=some (.ptr id (o+d)):=by simp only[place,h]
theorem mF {H:List aa} {id:Nat} {g:Nat→Int} (h:H[id]? =some (b8 g)) (d:Nat):place H d (.ptr id 0)=some (.ptr id d):=by
 rw[Ke h,Nat.zero_add]
theorem QG {H:List aa} {id i:Nat} {g:Nat→Int} (h:H[id]? =some (b8 g)) (hi:i < 256) (v:Int):Pa H 1 (.ptr id i) (.pv (.int .i8 v))=some (H.set id (b8 fun b=>if b=i then v else g b)):=by
 have e:cellsOf 256 (Br (fun b=>AV.pv (.int .i8 (g b))) i (.pv (.int .i8 v)))=cellsOf 256 (fun b=> .pv (.int .i8 (if b=i then v else g b))):=by
  refine lu fun b _=> ?_
  unfold Br;split <;> rfl
 simp only[Pa,AV.cells,PV.cells,List.map_cons,List.map_nil,List.length_cons,List.length_nil,List.all_cons,AV.one,List.all_nil,Bool.and_self,and_self,if_true,h,b8,Me]
 rw[if_pos (by omega)]
 simp only[oa,cy,e]
theorem BP {n:Int} (h0: -128≤n) (h1:n≤127):IntKind.i8.wrap n=n:=by
 unfold IntKind.wrap
 simp[IntKind.signed,IntKind.bits]
 omega
section
variable {call:Fa} {A:List aa} (hA:Kc A)
include hA
theorem dv (g:Nat→Int) {n:Nat} (hn:A.length≤n):∀ o∈A++[b8 g],pa n o=some o:=by
 intro o ho
 rcases List.mem_append.1 ho with h | h
 ·exact hA n hn o h
 ·rw[List.mem_singleton] at h;subst h;exact aS g n
theorem GN {E:Tr} {tb:Nat} {L S:PV} {x y:PV} {g0:Nat→Int} (htb:tb < A.length) (h8:E.get 8= .ptr tb 0) (h12:E.get 12= .pv L) (h13:E.get 13= .ptr A.length 0) (h101:E.get 101= .pv S) (h102:E.get 102= .pv x) (h103:E.get 103= .pv y) (h108:E.get 108= .pv (i64 0)):
 ke (fun r=>r.1.stop=true∧∃ E',r=(.exit 4,⟨E',A++[b8 fun _=> -2]⟩)∧∀ t∈[8,12,13,101,102,103],E'.get t=E.get t)
  (ga call (.loop [8,12,13,101,102,103,108] jh) ⟨E,A++[b8 g0]⟩):=by
 have hcut:∀ t∈[8,12,13,101,102,103],(E.get t).cut (A.length+1) deep=some (E.get t):=by
  intro t ht
  simp only[List.mem_cons,List.not_mem_nil,or_false] at ht
  rcases ht with rfl | rfl | rfl | rfl | rfl | rfl <;> simp only[h8,h12,h13,h101,h102,h103,Ha] <;> exact Tp (by omega)
 refine Up (fun i t=>(∀ u∈[8,12,13,101,102,103],t.env.get u=E.get u)∧t.env.get 108= .pv (i64 i)∧t.H=A++[b8 fun b=>if b < i then -2 else g0 b]) 256 (by unfold wa;omega) ?_ ?_ ?_
 ·refine Ug.all rfl (by rw[List.length_append];exact dv hA g0 (by simp)) ?_ fun E' hE=>⟨fun u hu=>hE u (by simp at hu ⊢;omega),by rw[hE 108 (by simp),h108];rfl,by simp⟩
  intro t ht
  rw[List.length_append]
  by_cases h:t=108
  ·subst h;rw[h108,Ha]
  ·exact hcut t (by simp at ht ⊢;omega)
 ·rintro i ⟨E1,H1⟩ hi ⟨k1,k2,k3⟩
  simp only at k1 k2 k3
  subst k3
  have g13:=k1 13 (by simp)
  rw[h13] at g13
  have e1:decide ((i:Int) < 256)=true:=Za (by omega)
  have t1:IntKind.i64.wrap ((i:Int)+1)=((i+1:Nat):Int):=Gh (by omega)
  have hg:=lh A (b8 fun b=>if b < i then -2 else g0 b)
  have p1:=mF hg i
  have s1:=QG hg hi (-2)
  rw[Wk] at s1
  have hid:(i < 256)=True:=eq_true hi
  have hc:b8 (fun b=>if b=i then -2 else if b < i then -2 else g0 b)=b8 (fun b=>if b < i+1 then -2 else g0 b):=Rp fun b _=>by
   by_cases h1:b=i
   ·rw[if_pos h1,if_pos (by omega)]
   ·rw[if_neg h1]
    by_cases h2:b < i
    ·rw[if_pos h2,if_pos (by omega)]
    ·rw[if_neg h2,if_neg (by omega)]
  rw[hc] at s1
  generalize hQ:RQ _ _ _ _=Q
  simp -implicitDefEqProofs only[SX,sevalprocAttr,jh,k2,g13,e1,t1,hid,p1,s1]
  subst hQ
  rw[Nn]
  refine Ug.all (by simp) (by rw[List.length_append];exact dv hA _ (by simp)) ?_ fun E' hE=>⟨fun u hu=> ?_,?_,rfl⟩
  ·intro t ht
   rw[List.length_append]
   by_cases h:t=108
   ·subst h;simp[Tr.ba,Ha]
   ·have hm:t∈[8,12,13,101,102,103]:=by simp at ht ⊢;omega
    have:=k1 t hm
    have h2:=hcut t hm
    simp only[List.mem_cons,List.not_mem_nil,or_false] at hm
    rcases hm with rfl | rfl | rfl | rfl | rfl | rfl <;> simp only[Tr.ba] <;> simp only[this] <;> simpa using h2
  ·rw[hE u (by simp at hu ⊢;omega),←k1 u hu]
   simp only[List.mem_cons,List.not_mem_nil,or_false] at hu
   rcases hu with rfl | rfl | rfl | rfl | rfl | rfl <;> simp[Tr.ba]
  ·rw[hE 108 (by simp)];simp[Tr.ba]
 ·rintro⟨E1,H1⟩ ⟨k1,k2,k3⟩
  simp only at k1 k2 k3
  subst k3
  have e1:decide (((256:Nat):Int) < 256)=false:=mb (by omega)
  generalize hQ:(fun r:Ex×St=>r.1.stop=true∧_)=Q
  simp -implicitDefEqProofs only[SX,sevalprocAttr,jh,k2,e1]
  subst hQ
  rw[Rp (g':=fun _=> -2) fun b hb=>if_pos hb]
  refine⟨rfl,_,rfl,fun t ht=> ?_⟩
  ·rw[← k1 t ht]
   simp only[List.mem_cons,List.not_mem_nil,or_false] at ht
   rcases ht with rfl | rfl | rfl | rfl | rfl | rfl <;> simp[Tr.ba]
def gw (e:je):aa:= .box [.pv (i64 e.lo),.pv (i64 e.hi),.pv (i64 e.to)]
omit hA in
theorem eQ (e:je) (n:Nat):pa n (gw e)=some (gw e):=Zm n [i64 e.lo,i64 e.hi,i64 e.to]
theorem KQ {E:Tr} {tb:Nat} {L S:PV} {x y u v:PV} {g0:Nat→Int} {e:je} (he:0≤e.lo∧e.lo≤e.hi∧e.hi < 256∧ -1≤e.to∧e.to≤64) (htb:tb < A.length) (h8:E.get 8= .ptr tb 0) (h13:E.get 13= .ptr A.length 0) (h16:E.get 16= .ptr (A.length+1) 0) (h17:E.get 17= .pv (i64 e.lo))
 (h101:E.get 101= .pv S) (h102:E.get 102= .pv x) (h103:E.get 103= .pv y) (h114:E.get 114= .pv L) (h115:E.get 115= .pv u) (h116:E.get 116= .pv v):
 ke (fun r=>r.1.stop=true∧∃ E',r=(.exit 8,⟨E',(A++[b8 (Zp g0 e)])++[gw e]⟩)∧∀ t∈[8,13,101,102,103,114,115,116],E'.get t=E.get t)
  (ga call (.loop [8,13,16,17,101,102,103,114,115,116] mh) ⟨E,(A++[b8 g0])++[gw e]⟩):=by
 have hcut:∀ t∈[8,13,16,101,102,103,114,115,116],(E.get t).cut (A.length+2) deep=some (E.get t):=by
  intro t ht
  simp only[List.mem_cons,List.not_mem_nil,or_false] at ht
  rcases ht with rfl | rfl | rfl | rfl | rfl | rfl | rfl | rfl | rfl <;> simp only[h8,h13,h16,h101,h102,h103,h114,h115,h116,Ha] <;> exact Tp (by omega)
 have hgood:∀ g,∀ o∈(A++[b8 g])++[gw e],pa (A.length+2) o=some o:=by
  intro g o ho
  rcases List.mem_append.1 ho with h | h
  ·exact dv hA g (by omega) o h
  ·rw[List.mem_singleton] at h;subst h;exact eQ e _
 have hlen:∀ g,((A++[b8 g])++[gw e]).length=A.length+2:=fun g=>by simp
 refine Up (fun i t=>(∀ u∈[8,13,16,101,102,103,114,115,116],t.env.get u=E.get u)∧t.env.get 17= .pv (i64 (e.lo+i))∧t.H=(A++[b8 fun b=>if e.lo≤(b:Int)∧(b:Int) < e.lo+i then e.to else g0 b])++[gw e]) (e.hi - e.lo+1).toNat (by unfold wa;omega) ?_ ?_ ?_
 ·refine Ug.all rfl (by rw[hlen];exact hgood g0) ?_ fun E' hE=>⟨fun u hu=>hE u (by simp at hu ⊢;omega),by rw[hE 17 (by simp),h17];simp,?_⟩
  ·intro t ht
   rw[hlen]
   by_cases h:t=17
   ·subst h;rw[h17,Ha]
   ·exact hcut t (by simp at ht ⊢;omega)
  ·show _=_
   rw[Rp (g:=fun b=>if e.lo≤(b:Int)∧(b:Int) < e.lo+((0:Nat):Int) then e.to else g0 b) (g':=g0) fun b _=>if_neg (by omega)]
 ·rintro i ⟨E1,H1⟩ hi ⟨k1,k2,k3⟩
  simp only at k1 k2 k3
  subst k3
  have g13:=k1 13 (by simp)
  rw[h13] at g13
  have g16:=k1 16 (by simp)
  rw[h16] at g16
  have e1:decide (e.lo+(i:Int)≤e.hi)=true:=Za (by omega)
  have t1:IntKind.i64.wrap (e.lo+(i:Int)+1)=e.lo+((i+1:Nat):Int):=by rw[Da (by omega)];omega
  have t2:IntKind.i8.wrap e.to=e.to:=BP (by omega) (by omega)
  generalize hgi:(fun b:Nat=>if e.lo≤(b:Int)∧(b:Int) < e.lo+i then e.to else g0 b)=gi
  have hg:((A++[b8 gi])++[gw e])[A.length]? =some (b8 gi):=by rw[List.getElem?_append_left (by simp)];exact lh _ _
  have hg2:((A++[b8 gi])++[gw e])[A.length+1]? =some (gw e):=by
   have:=lh (A++[b8 gi]) (gw e)
   rw[List.length_append] at this;exact this
  have p1:=mF hg (e.lo+(i:Int)).toNat
  have p2:=fun d=>Ke hg2 d 0
  have l1:na ((A++[b8 gi])++[gw e]) false 1 (.ptr (A.length+1) 1)=some (.pv (i64 e.hi)):=by simp only[na,hg2];rfl
  have l2:na ((A++[b8 gi])++[gw e]) false 1 (.ptr (A.length+1) 2)=some (.pv (i64 e.to)):=by simp only[na,hg2];rfl
  have s1:=QG hg (i:=(e.lo+(i:Int)).toNat) (by omega) e.to
  have hset:((A++[b8 gi])++[gw e]).set A.length (b8 fun b=>if b=(e.lo+(i:Int)).toNat then e.to else gi b)=(A++[b8 fun b=>if e.lo≤(b:Int)∧(b:Int) < e.lo+((i+1:Nat):Int) then e.to else g0 b])++[gw e]:=by
   rw[List.set_append_left _ _ (by simp),Wk]
   congr 3
   refine Rp fun b _=> ?_
   subst hgi
   by_cases h1:b=(e.lo+(i:Int)).toNat
   ·rw[if_pos h1,if_pos (by omega)]
   ·rw[if_neg h1]
    dsimp only
    by_cases h2:e.lo≤(b:Int)∧(b:Int) < e.lo+i
    ·rw[if_pos h2,if_pos (by omega)]
    ·rw[if_neg h2,if_neg (by omega)]
  rw[hset] at s1
  have hid:(0≤e.lo+(i:Int)∧e.lo+(i:Int) < ((256:Nat):Int))=True:=eq_true (by omega)
  generalize (A++[b8 gi])++[gw e]=HH at *
  generalize hQ:RQ _ _ _ _=Q
  simp -implicitDefEqProofs only[SX,sevalprocAttr,mh,k2,g13,g16,e1,t1,t2,hid,p1,p2,l1,l2,s1]
  subst hQ
  rw[Nn]
  refine Ug.all (by simp) (by rw[hlen];exact hgood _) ?_ fun E' hE=>⟨fun u hu=> ?_,?_,rfl⟩
  ·intro t ht
   rw[hlen]
   by_cases h:t=17
   ·subst h;simp[Tr.ba,Ha]
   ·have hm:t∈[8,13,16,101,102,103,114,115,116]:=by simp at ht ⊢;omega
    have:=k1 t hm
    have h2:=hcut t hm
    simp only[List.mem_cons,List.not_mem_nil,or_false] at hm
    rcases hm with rfl | rfl | rfl | rfl | rfl | rfl | rfl | rfl | rfl <;> simp only[Tr.ba] <;> simp only[this] <;> simpa using h2
  ·rw[hE u (by simp at hu ⊢;omega),←k1 u hu]
   simp only[List.mem_cons,List.not_mem_nil,or_false] at hu
   rcases hu with rfl | rfl | rfl | rfl | rfl | rfl | rfl | rfl | rfl <;> simp[Tr.ba]
  ·rw[hE 17 (by simp)];simp[Tr.ba]
 ·rintro⟨E1,H1⟩ ⟨k1,k2,k3⟩
  simp only at k1 k2 k3
  subst k3
  have g16:=k1 16 (by simp)
  rw[h16] at g16
  rw[show e.lo+((e.hi - e.lo+1).toNat:Int)=e.hi+1 by omega] at k2
  have e1:decide (e.hi+1≤e.hi)=false:=mb (by omega)
  have hb:b8 (fun b:Nat=>if e.lo≤(b:Int)∧(b:Int) < e.lo+((e.hi - e.lo+1).toNat:Int) then e.to else g0 b)=b8 (Zp g0 e):=Rp fun b _=>by
   unfold Zp
   by_cases h:e.lo≤(b:Int)∧(b:Int)≤e.hi
   ·rw[if_pos h,if_pos (by omega)]
   ·rw[if_neg h,if_neg (by omega)]
  rw[hb]
  have hg2:((A++[b8 (Zp g0 e)])++[gw e])[A.length+1]? =some (gw e):=by
   have:=lh (A++[b8 (Zp g0 e)]) (gw e)
   rw[List.length_append] at this;exact this
  have p2:=fun d=>Ke hg2 d 0
  have l1:na ((A++[b8 (Zp g0 e)])++[gw e]) false 1 (.ptr (A.length+1) 1)=some (.pv (i64 e.hi)):=by simp only[na,hg2];rfl
  generalize (A++[b8 (Zp g0 e)])++[gw e]=HH at *
  generalize hQ:(fun r:Ex×St=>r.1.stop=true∧_)=Q
  simp -implicitDefEqProofs only[SX,sevalprocAttr,mh,k2,g16,e1,p2,l1]
  subst hQ
  refine⟨rfl,_,rfl,fun t ht=> ?_⟩
  ·rw[← k1 t (by simp at ht ⊢;omega)]
   simp only[List.mem_cons,List.not_mem_nil,or_false] at ht
   rcases ht with rfl | rfl | rfl | rfl | rfl | rfl | rfl | rfl <;> simp[Tr.ba]
end
end Go.AM.B1
namespace Go.AM.B1
open Go.AM Go.AM.So
section
variable {call:Fa} {A:List aa} (hA:Kc A)
include hA
theorem FO {E:Tr} {tb:Nat} {L S:PV} {x y:PV} {es:List je} (ta:Qj es) (hL:Ah 3 L (es.map fB)) (hlen:es.length≤256) (htb:tb < A.length) (h8:E.get 8= .ptr tb 0) (h13:E.get 13= .ptr A.length 0)
 (h101:E.get 101= .pv S) (h102:E.get 102= .pv x) (h103:E.get 103= .pv y) (h114:E.get 114= .pv L) (h115:E.get 115= .pv (i64 es.length)) (h116:E.get 116= .pv (i64 0)):
 ke (fun r=>r.1.stop=true∧∃ E',r=(.exit 6,⟨E',A++[b8 (Yh es)]⟩)∧∀ t∈[8,13,101,102,103],E'.get t=E.get t)
  (ga call (.loop [8,13,101,102,103,114,115,116] nh) ⟨E,A++[b8 fun _=> -2]⟩):=by
 have hcut:Fit (A.length+1) [8,13,101,102,103,114,115] E:=
  .cons h8 (Tp (by omega)) (.cons h13 (Tp (by omega)) (.cons h101 Ha (.cons h102 Ha (.cons h103 Ha (.cons h114 Ha (.cons h115 Ha (.nil _ _)))))))
 refine Up (fun i t=>oe [8,13,101,102,103,114,115] E t.env∧t.env.get 116= .pv (i64 i)∧t.H=A++[b8 ((es.take i).foldl Zp fun _=> -2)]) es.length (by unfold wa;omega) ?_ ?_ ?_
 ·rw[List.length_append]
  exact Ug.all (by simp) (dv hA _ (by simp)) (Fit.sub (.cons h116 Ha hcut) rfl) fun E' hE=>⟨oe.sub hE rfl,by rw[hE 116 (by simp),h116];rfl,rfl⟩
 ·rintro i ⟨E1,H1⟩ hi ⟨k1,k2,k3⟩
  simp only at k1 k2 k3
  subst k3
  have g8:=k1 8 (by simp)
  rw[h8] at g8
  have g13:=k1 13 (by simp)
  rw[h13] at g13
  have g101:=k1 101 (by simp)
  rw[h101] at g101
  have g102:=k1 102 (by simp)
  rw[h102] at g102
  have g103:=k1 103 (by simp)
  rw[h103] at g103
  have g114:=k1 114 (by simp)
  rw[h114] at g114
  have g115:=k1 115 (by simp)
  rw[h115] at g115
  have hle:=hL.lit (i:=i) (by simpa using hi)
  have hea:=ta.iw es[i] (List.getElem_mem hi)
  have htk:(es.take (i+1)).foldl Zp (fun _=> -2)=Zp ((es.take i).foldl Zp fun _=> -2) es[i]:=by
   rw[List.take_succ_eq_append_getElem hi,List.foldl_append];rfl
  have a1:ma (A++[b8 ((es.take i).foldl Zp fun _=> -2)]) 3 (.pv L) (i:Int)=some (.pv (.rp [i64 es[i].lo,i64 es[i].hi,i64 es[i].to] 0)):=by
   rw[hle]
   simp only[ma]
   rw[if_pos ⟨trivial,by unfold Ca;rw[List.length_map];omega⟩,Int.toNat_natCast,List.getElem?_map,List.getElem?_eq_getElem hi];rfl
  rw[htk]
  generalize (es.take i).foldl Zp (fun _=> -2)=g0 at *
  generalize es[i]=e at *
  have e1:decide ((i:Int) < (es.length:Int))=true:=Za (by omega)
  have t1:IntKind.i64.wrap ((i:Int)+1)=((i+1:Nat):Int):=Gh (by omega)
  have r3:∀ H (x y z:PV),na H true 3 (.pv (.rp [x,y,z] 0))=some (.pv (.agg [x,y,z])):=fun H x y z=>rfl
  have hln:(A++[b8 g0]).length=A.length+1:=by simp
  have s1:Pa ((A++[b8 g0])++[.box [.pv (i64 0),.pv (i64 0),.pv (i64 0)]]) 3 (.ptr (A.length+1) 0) (.pv (.agg [i64 e.lo,i64 e.hi,i64 e.to]))=some ((A++[b8 g0])++[gw e]):=by
   have:=Wk (A++[b8 g0]) (.box [.pv (i64 0),.pv (i64 0),.pv (i64 0)]) (gw e)
   have hg:=lh (A++[b8 g0]) (.box [.pv (i64 0),.pv (i64 0),.pv (i64 0)])
   rw[hln] at this hg
   simp only[Pa,hg]
   rw[if_pos (by simp[AV.cells,PV.cells,AV.one]),if_pos (by simp)]
   rw[← this];rfl
  have hg2:((A++[b8 g0])++[gw e])[A.length+1]? =some (gw e):=by
   have:=lh (A++[b8 g0]) (gw e)
   rw[hln] at this;exact this
  have p2:=fun d=>Ke hg2 d 0
  have l0:na ((A++[b8 g0])++[gw e]) false 1 (.ptr (A.length+1) 0)=some (.pv (i64 e.lo)):=by simp only[na,hg2];rfl
  have hed:=fun (E2:Tr) (q8:E2.get 8= .ptr tb 0) (q13:E2.get 13= .ptr A.length 0) (q16:E2.get 16= .ptr (A.length+1) 0) (q17:E2.get 17= .pv (i64 e.lo)) (q101:E2.get 101= .pv S) (q102:E2.get 102= .pv x) (q103:E2.get 103= .pv y) (q114:E2.get 114= .pv L) (q115:E2.get 115= .pv (i64 es.length)) (q116:E2.get 116= .pv (i64 i))=>
   KQ (call:=call) hA (g0:=g0) hea htb q8 q13 q16 q17 q101 q102 q103 q114 q115 q116
  generalize hHH:(A++[b8 g0])++[gw e]=HH at *
  generalize hHK:(A++[b8 g0])++[aa.box [.pv (i64 0),.pv (i64 0),.pv (i64 0)]]=HK at *
  generalize hQ:RQ _ _ _ _=Q
  simp -implicitDefEqProofs only[SX,sevalprocAttr,nh,k2,g114,g115,e1,a1,r3,hln,hHK,s1,p2,l0]
  generalize hEE:(Tr.set _ 17 _:Tr)=E2
  have q8:E2.get 8= .ptr tb 0:=by rw[← hEE];simp[Tr.ba,g8]
  have q13:E2.get 13= .ptr A.length 0:=by rw[← hEE];simp[Tr.ba,g13]
  have q16:E2.get 16= .ptr (A.length+1) 0:=by rw[← hEE];simp[Tr.ba]
  have q17:E2.get 17= .pv (i64 e.lo):=by rw[← hEE];simp[Tr.ba]
  have q101:E2.get 101= .pv S:=by rw[← hEE];simp[Tr.ba,g101]
  have q102:E2.get 102= .pv x:=by rw[← hEE];simp[Tr.ba,g102]
  have q103:E2.get 103= .pv y:=by rw[← hEE];simp[Tr.ba,g103]
  have q114:E2.get 114= .pv L:=by rw[← hEE];simp[Tr.ba,g114]
  have q115:E2.get 115= .pv (i64 es.length):=by rw[← hEE];simp[Tr.ba,g115]
  have q116:E2.get 116= .pv (i64 i):=by rw[← hEE];simp[Tr.ba,k2]
  refine Wa (hed E2 q8 q13 q16 q17 q101 q102 q103 q114 q115 q116) ?_
  rintro r ⟨_,E3,rfl,hE3⟩
  have z116:=hE3 116 (by simp)
  rw[q116] at z116
  have kE:oe [8,13,101,102,103,114,115] E E3:=by
   refine oe.trans ?_ (oe.sub hE3 rfl)
   rw[← hEE]
   repeat refine oe.set ?_ rfl
   exact k1
  simp -implicitDefEqProofs only[SX,sevalprocAttr,z116,t1]
  subst hQ
  rw[Nn]
  have kF:∀ v w,oe [8,13,101,102,103,114,115] E ((E3.set 133 v).set 116 w):=fun v w=>oe.set (oe.set kE rfl) rfl
  rw[List.length_append]
  exact Ug.front (by simp) (dv hA _ (by simp)) (Fit.sub (.cons (t:=116) (by rw[Tr.ba,if_pos rfl]) Ha (hcut.Wc (kF _ _))) rfl) fun E' hE=>⟨(kF _ _).trans (oe.sub hE rfl),by rw[hE 116 (by simp),Tr.ba,if_pos rfl],rfl⟩
 ·rintro⟨E1,H1⟩ ⟨k1,k2,k3⟩
  simp only at k1 k2 k3
  subst k3
  have g115:=k1 115 (by simp)
  rw[h115] at g115
  have e1:decide ((es.length:Int) < (es.length:Int))=false:=mb (by omega)
  rw[List.take_length,Rp (g:=es.foldl Zp fun _=> -2) (g':=Yh es) fun b _=>SC es _ ta.ord]
  generalize hQ:(fun r:Ex×St=>r.1.stop=true∧_)=Q
  simp -implicitDefEqProofs only[SX,sevalprocAttr,nh,k2,g115,e1]
  subst hQ
  exact⟨rfl,_,rfl,oe.set (oe.sub k1 rfl) rfl⟩
end
end Go.AM.B1
namespace Go.AM.B1
open Go.AM Go.AM.So
theorem yK {v:PV} {l:List (Int×Int)} (h:Qp v l):∃ w,pc [v]=some w∧Ah 2 w (Td l)∧(l≠[]→w= .lit 2 (Td l)):=by
 rcases h.is with⟨rfl,hl⟩ | rfl
 ·refine⟨.qa,?_,.inl ⟨rfl,hl⟩,fun hne=>absurd (by simpa[Td] using hl) hne⟩
  simp -implicitDefEqProofs only[pc,SP,SA,SQ,WP,WQ,sevalprocAttr,jd]
 ·refine⟨.lit 2 (Td l),?_,.inr rfl,fun _=>rfl⟩
  have hr:Cb (Td l).length 16:=by have:=h.sz;unfold Cb;simp;omega
  generalize Td l=es at *
  simp -implicitDefEqProofs only[pc,SP,SA,SQ,WP,WQ,sevalprocAttr,jd,eq_true hr]
abbrev RE (S P:PV) (n i m j:Int):Tr:=((((((((Tr.lf.set 22 (.pv (i64 j))).set 21 (.pv (i64 m))).set 20 (.pv P)).set 12 (.pv (i64 i))).set 11 (.pv (i64 n))).set 10 (.pv S)).set 6 (.ptr 4 0)).set 3 (.ptr 1 0)).set 2 (.ptr 0 0)
abbrev fK (S:PV) (n i:Int):Tr:=((((Tr.lf.set 12 (.pv (i64 i))).set 11 (.pv (i64 n))).set 10 (.pv S)).set 3 (.ptr 1 0)).set 2 (.ptr 0 0)
abbrev pT (out:List PV) (nl:Bool):List aa:=[.box [.pv .qa],.box [.uq 2 nl 2 out],.tok 2 out.length nl]
abbrev OD (out:List PV) (nl:Bool) (P:PV) (f:Int) (ps:List PV) (nl1:Bool):List aa:=[.box [.pv .qa],.box [.uq 2 nl 2 out],.tok 2 out.length nl,.box [.pv P,.pv (i64 f)],.box [.uq 5 nl1 1 ps,.pv (i64 f)],.tok 1 ps.length nl1]
theorem UI {P S:PV} {ls:List (List (Int×Int))} {ps:List PV} (hP:qf P ls ps) (ta:∀ l∈ls,l≠[]) (h8:ls.length≤8) (out:List PV) (nl:Bool) (f n i:Int):
 ∃ E nl1,Eb (fa (ga (za (fun _=>none) 8) Qf) (xa 6 [2,3,6,10,11,12,20,21,22])) wa ⟨RE S P n i ls.length 0,OD out nl P f [] true⟩=
  some (.exit 2,⟨E,OD out nl P f (ls.map Sd) nl1⟩)∧(nl1=true→ls=[])∧E.get 2= .ptr 0 0∧E.get 3= .ptr 1 0∧E.get 6= .ptr 4 0∧E.get 10= .pv S∧E.get 11= .pv (i64 n)∧E.get 12= .pv (i64 i):=by
 have key:=Te (g:=fa (ga (za (fun _=>none) 8) Qf) (xa 6 [2,3,6,10,11,12,20,21,22]))
  (fun j t=>∃ nl1,t=⟨RE S P n i ls.length j,OD out nl P f ((ls.take j).map Sd) nl1⟩∧(nl1=true→j=0))
  (Q:=fun r=>∃ E nl1,r=(.exit 2,⟨E,OD out nl P f (ls.map Sd) nl1⟩)∧(nl1=true→ls=[])∧E.get 2= .ptr 0 0∧E.get 3= .ptr 1 0∧E.get 6= .ptr 4 0∧E.get 10= .pv S∧E.get 11= .pv (i64 n)∧E.get 12= .pv (i64 i))
  ls.length (by unfold wa;omega) ⟨RE S P n i ls.length (0:Nat),OD out nl P f [] true⟩ ⟨true,rfl,fun _=>rfl⟩ ?_ ?_
 ·obtain⟨r,h1,_,E,nl1,rfl,h2⟩:=vd key
  exact⟨E,nl1,h1,h2⟩
 ·rintro j t hj ⟨nl1,rfl,hnl⟩
  obtain⟨v,hv,hpt,_⟩:=hP.mg hj []
  have a1:=hP.Bz hv
  obtain⟨w,hcl,_,hw⟩:=yK hpt
  have hw:=hw (ta _ (List.getElem_mem hj))
  subst hw
  have htk:(ls.take (j+1)).map Sd=(ls.take j).map Sd++[.lit 2 (Td ls[j])]:=by
   rw[List.take_succ_eq_append_getElem hj,List.map_append];rfl
  have hpl:((ls.take j).map Sd).length=j:=by simp;omega
  generalize ls[j]=l at *
  have e1:decide ((j:Int) < (ls.length:Int))=true:=Za (by omega)
  have t2:=Bb hj (by unfold maxLen;omega)
  have r1:∀ H (x:PV),na H false 1 (.pv (.rp [x] 0))=some (.pv x):=fun H x=>rfl
  have hap:=Nk (A:=OD out nl P f ((ls.take j).map Sd) nl1) (id:=5) (n:=j) (h:= .uq) (ag:=false) (nl:=nl1) (sz:=1) (bytes:=24) (es:=(ls.take j).map Sd) (by show some (aa.tok 1 ((ls.take j).map Sd).length nl1)=_;rw[hpl]) hpl.symm (by unfold Cb;omega) (.lit 2 (Td l))
  have hlen1:((ls.take j).map Sd++[PV.lit 2 (Td l)]).length=j+1:=by rw[List.length_append,hpl];rfl
  have hap':Hc (OD out nl P f ((ls.take j).map Sd) nl1) false .uq 1 false 24 (.uq 5 nl1 1 ((ls.take j).map Sd)) (.pv (.lit 1 [.lit 2 (Td l)]))=some (.uq 5 false 1 ((ls.take j).map Sd++[.lit 2 (Td l)]),[.box [.pv .qa],.box [.uq 2 nl 2 out],.tok 2 out.length nl,.box [.pv P,.pv (i64 f)],.box [.uq 5 nl1 1 ((ls.take j).map Sd),.pv (i64 f)],.tok 1 (j+1) false]):=hap
  unfold OD at hap' ⊢
  rw[hpl] at hap' ⊢
  have p0:∀ (x:AV) (y z:aa),place [.box [.pv .qa],.box [.uq 2 nl 2 out],y,.box [.pv P,.pv (i64 f)],.box [x,.pv (i64 f)],z] 0 (.ptr 4 0)=some (.ptr 4 0):=fun x y z=>rfl
  have l0:∀ (x:AV) (y z:aa),na [.box [.pv .qa],.box [.uq 2 nl 2 out],y,.box [.pv P,.pv (i64 f)],.box [x,.pv (i64 f)],z] false 1 (.ptr 4 0)=some x:=fun x y z=>rfl
  have s0:∀ (x:AV) (y z:aa) (es:List PV),Pa [.box [.pv .qa],.box [.uq 2 nl 2 out],y,.box [.pv P,.pv (i64 f)],.box [x,.pv (i64 f)],z] 1 (.ptr 4 0) (.uq 5 false 1 es)=some [.box [.pv .qa],.box [.uq 2 nl 2 out],y,.box [.pv P,.pv (i64 f)],.box [.uq 5 false 1 es,.pv (i64 f)],z]:=fun x y z es=>rfl
  generalize hp0:(ls.take j).map Sd=ps0 at *
  generalize hL:PV.lit 2 (Td l)=L at *
  have hL1:(AV.pv L).cells=[.pv L]∧(AV.pv L).one=true:=by rw[← hL];exact⟨rfl,rfl⟩
  have b5:(5 < 6)=True:=by simp
  have b4:(4 < 6)=True:=by simp
  have b2:(2 < 6)=True:=by simp
  have b1:(1 < 6)=True:=by simp
  have b0:(0 < 6)=True:=by simp
  have hLc:L.cells=[L]:=by rw[← hL];rfl
  generalize hQ:LN _ _ j=Q
  subst hL
  simp -implicitDefEqProofs only[SP,WP,oa,sevalprocAttr,Qf,e1,t2,a1,r1,p0,l0,s0,hcl,hap',b0,b1,b2,b4,b5,xa,Qa,AV.cut,pa,Va,Sa,RE]
  subst hQ
  refine⟨false,?_,by simp⟩
  rw[htk,hlen1]
 ·rintro t ⟨nl1,rfl,hnl⟩
  rw[List.take_length]
  have e1:decide ((ls.length:Int) < (ls.length:Int))=false:=mb (by omega)
  generalize hQ:(fun r:Ex×St=>r.1.stop=true∧_)=Q
  simp -implicitDefEqProofs only[SX,sevalprocAttr,Qf,e1,RE]
  subst hQ
  exact⟨rfl,_,nl1,rfl,fun h=>List.eq_nil_of_length_eq_zero (hnl h),by simp[Tr.ba],by simp[Tr.ba],by simp[Tr.ba],by simp[Tr.ba],by simp[Tr.ba],by simp[Tr.ba]⟩
theorem zA {S:PV} {ss:List ec} {es:List PV} (hS:Ld S ss es) (ta:ue ss):∃ S',Pg [.agg [S]]=some (.agg [S'])∧Ah 2 S' (ss.map Ed):=by
 have lS:=hS.Mc
 have h32:=ta.len
 have hSone:(AV.pv S).one=true:=by rcases hS.is with⟨h,_⟩ | h <;> rw[h] <;> rfl
 have hloop:ke (fun r=>∃ E nl,r=(.exit 0,⟨E,pT (ss.map Ed) nl⟩)∧(nl=true→ss=[])∧E.get 2= .ptr 0 0∧E.get 3= .ptr 1 0)
  (Eb (fa (ga (za (fun _=>none) 8) Sf) (xa 3 [2,3,10,11,12])) wa ⟨fK S ss.length 0,pT [] true⟩):=by
  refine Wa (Te (g:=fa (ga (za (fun _=>none) 8) Sf) (xa 3 [2,3,10,11,12]))
   (fun i t=>∃ nl,t=⟨fK S ss.length i,pT ((ss.take i).map Ed) nl⟩∧(nl=true→i=0))
   (Q:=fun r=>∃ E nl,r=(.exit 0,⟨E,pT (ss.map Ed) nl⟩)∧(nl=true→ss=[])∧E.get 2= .ptr 0 0∧E.get 3= .ptr 1 0)
   ss.length (by unfold wa;omega) _ ⟨true,rfl,fun _=>rfl⟩ ?_ ?_) (fun r h=>h.2)
  ·rintro i t hi ⟨nl,rfl,hnl⟩
   obtain⟨P,ps,hPs,a1⟩:=hS.mg hi
   have ok:=ta.my _ (List.getElem_mem hi)
   obtain⟨hP1,hP2⟩:=hPs.yw
   have lP:=hPs.parts.Mc
   have htk:(ss.take (i+1)).map Ed=(ss.take i).map Ed++[Ed ss[i]]:=by
    rw[List.take_succ_eq_append_getElem hi,List.map_append];rfl
   have hpl:((ss.take i).map Ed).length=i:=by simp;omega
   obtain⟨E,nl1,hin,hnl1,g2,g3,g6,g10,g11,g12⟩:=UI (S:=S) hPs.parts (fun l hl=>(ok.parts l hl).1) ok.hi ((ss.take i).map Ed) nl ss[i].first ss.length i
   have hnl1f:nl1=false:=by
    cases nl1 with
    |false=>rfl
    |true=>have:=hnl1 rfl;have h2:=ok.lo;rw[this] at h2;simp at h2
   subst hnl1f
   have hes:Ed ss[i]= .agg [.lit 1 (ss[i].parts.map Sd),i64 ss[i].first]:=rfl
   rw[hes] at htk
   generalize ss[i]=p at *
   have e1:decide ((i:Int) < (ss.length:Int))=true:=Za (by omega)
   have t2:=Bb hi (by unfold maxLen;omega)
   have a2:∀ H,na H true 2 (.pv (.rp [P,i64 p.first] 0))=some (.pv (.agg [P,i64 p.first])):=fun H=>rfl
   generalize (ss.take i).map Ed=out at *
   generalize p.parts.map Sd=pp at *
   subst hpl
   unfold OD at hin
   unfold pT
   have hlo:(out++[PV.agg [.lit 1 pp,i64 p.first]]).length=out.length+1:=by simp
   have hap:∀ (T:List aa),Hc ([.box [.pv .qa],.box [.uq 2 nl 2 out],.tok 2 out.length nl]++T) false .uq 2 true 32 (.uq 2 nl 2 out) (.pv (.lit 2 [.agg [.lit 1 pp,i64 p.first]]))=some (.uq 2 false 2 (out++[.agg [.lit 1 pp,i64 p.first]]),[.box [.pv .qa],.box [.uq 2 nl 2 out],.tok 2 (out.length+1) false]++T):=fun T=>
    Nk (A:=[.box [.pv .qa],.box [.uq 2 nl 2 out],.tok 2 out.length nl]++T) (id:=2) (n:=out.length) (h:= .uq) (ag:=true) (nl:=nl) (sz:=2) (bytes:=32) (es:=out) rfl rfl (by unfold Cb;omega) _
   have hap1:=fun a b c=>hap [a,b,c]
   simp only[List.cons_append,List.nil_append] at hap1
   have s1:∀ T:List aa,Pa ([.box [.pv .qa],.box [.uq 2 nl 2 out],.tok 2 out.length nl,.box [.pv .qa,.pv (i64 0)]]) 2 (.ptr 3 0) (.pv (.agg [P,i64 p.first]))=some [.box [.pv .qa],.box [.uq 2 nl 2 out],.tok 2 out.length nl,.box [.pv P,.pv (i64 p.first)]]:=fun T=>
    Sk _ _ _ _ hP1 rfl [.box [.pv .qa],.box [.uq 2 nl 2 out],.tok 2 out.length nl] _ rfl
   have s1':=s1 []
   have b5:(5 < 6)=True:=by simp
   have b4:(4 < 6)=True:=by simp
   have b2:(2 < 6)=True:=by simp
   have b1:(1 < 6)=True:=by simp
   have b0:(0 < 6)=True:=by simp
   have c2:(2 < 3)=True:=by simp
   have c1:(1 < 3)=True:=by simp
   have c0:(0 < 3)=True:=by simp
   have hz:(0 < 1)=True:=by simp
   generalize hQ:LN _ _ out.length=Q
   have hin':Eb (fa (ga (za (fun _=>none) 8) Qf) (xa 6 [2,3,6,10,11,12,20,21,22])) wa ⟨((((((((Tr.lf.set 22 (.pv (.int .i64 0))).set 21 (.pv (i64 p.parts.length))).set 20 (.pv P)).set 12 (.pv (i64 out.length))).set 11 (.pv (i64 ss.length))).set 10 (.pv S)).set 6 (.ptr 4 0)).set 3 (.ptr 1 0)).set 2 (.ptr 0 0),[.box [.pv .qa],.box [.uq 2 nl 2 out],.tok 2 out.length nl,.box [.pv P,.pv (i64 p.first)],.box [.uq 5 true 1 [],.pv (i64 p.first)],.tok 1 0 true]⟩=_:=hin
   simp -implicitDefEqProofs only[SP,SA,SQ,sevalprocAttr,fa,Sf,Tc,e1,a1,a2,s1',hP1,lP,ff,hz,b0,b1,b2,b4,b5,xa,Qa,AV.cut,pa,Ha,Va,Sa,fK]
   rw[hin']
   simp -implicitDefEqProofs only[SP,SQ,WP,WQ,↓reduceIte,reduceCtorEq,Nat.reduceAdd,Nat.reduceMul,Nat.reduceLeDiff,Nat.reduceEqDiff,Int.reduceLT,Int.reduceLE,Int.reduceBEq,Int.reduceEq,Nat.reduceBEq,Nat.reduceLT,Nat.reduceSub,g2,g3,g6,g10,g11,g12,hap1,t2,c0,c1,c2,xa,Qa,AV.cut,pa,Va,Sa]
   subst hQ
   exact⟨false,by rw[htk,hlo],by simp⟩
  ·rintro t ⟨nl,rfl,hnl⟩
   rw[List.take_length]
   have e1:decide ((ss.length:Int) < (ss.length:Int))=false:=mb (by omega)
   generalize hQ:(fun r:Ex×St=>r.1.stop=true∧_)=Q
   simp -implicitDefEqProofs only[SX,sevalprocAttr,Sf,e1,fK]
   subst hQ
   exact⟨rfl,_,nl,rfl,fun h=>List.eq_nil_of_length_eq_zero (hnl h),by simp[Tr.ba],by simp[Tr.ba]⟩
 obtain⟨r,h1,E,nl,rfl,hnl,g2,g3⟩:=vd hloop
 have h1':Eb (fa (ga (za (fun _=>none) 8) Sf) (xa 3 [2,3,10,11,12])) wa ⟨((((Tr.lf.set 12 (.pv (.int .i64 0))).set 11 (.pv (i64 ss.length))).set 10 (.pv S)).set 3 (.ptr 1 0)).set 2 (.ptr 0 0),[.box [.pv .qa],.box [.uq 2 true 2 []],.tok 2 0 true]⟩=_:=h1
 have hz:(0 < 2)=True:=by simp
 have c2:(2 < 3)=True:=by simp
 have c1:(1 < 3)=True:=by simp
 have c0:(0 < 3)=True:=by simp
 have hout:nl=true→ss.map Ed=[]:=fun h=>by rw[hnl h];rfl
 generalize ss.map Ed=out at *
 cases nl with
 |true=>
  refine⟨.qa,?_,.inl ⟨rfl,?_⟩⟩
  ·simp -implicitDefEqProofs only[Pg,SP,SA,SQ,sevalprocAttr,fa,Zk,Tc,hSone,yv,lS,ff,hz,c0,c1,c2,xa,Qa,AV.cut,pa,Ha,Va,Sa,h1',g2,g3]
  ·exact hout rfl
 |false=>
  refine⟨.lit 2 out,?_,.inr rfl⟩
  simp -implicitDefEqProofs only[Pg,SP,SA,SQ,sevalprocAttr,fa,Zk,Tc,hSone,yv,lS,ff,hz,c0,c1,c2,xa,Qa,AV.cut,pa,Ha,Va,Sa,h1',g2,g3]
end Go.AM.B1
namespace Go.AM.B1
open Go.AM Go.AM.So
theorem ue.ne {ss:List ec} (h:ue ss):∀ s∈ss,0 < s.parts.length:=fun s hs=>(h.my s hs).lo
theorem Ld.QT {S:PV} {ss:List ec} {es:List PV} (h:Ld S ss es):∀ s∈ss,∀ l∈s.parts,l.length * 16≤140737488355328:=by
 intro s hs l hl
 obtain⟨i,hi,rfl⟩:=List.getElem_of_mem hs
 obtain⟨e,P,ps,_,_,hp⟩:=h.get hi
 obtain⟨j,hj,rfl⟩:=List.getElem_of_mem hl
 obtain⟨v,_,_,hv⟩:=hp.parts.get hj
 exact hv.sz
theorem BK {S:PV} {ss:List ec} {es:List PV} (hS:Ld S ss es):
 (¬ ue ss→qd [.agg [S]]=some (.bc [.agg [.qa],i64 84]))∧
 (ue ss→¬ik ss→qd [.agg [S]]=some (.bc [.agg [.qa],i64 110]))∧
 (ue ss→ik ss→Ck ss=none→qd [.agg [S]]=some (.bc [.agg [.qa],i64 130]))∧
 (ue ss→ik ss→∀ l,Ck ss=some l→qd [.agg [S]]=some (.bc [.agg [jm l],i64 0])):=by
 have hS0:S= .qa∨∃ l,S= .lit 2 l:=by
  rcases hS.is with⟨h,_⟩ | h
  ·exact .inl h
  ·exact .inr ⟨_,h⟩
 have hp:=bB hS
 refine⟨?_,?_,?_,?_⟩
 ·intro h
  exact eL S hS0 (by decide) (hp.1 h)
 ·intro h1 h2
  obtain⟨y,a,b,h3,h4⟩:=hp.2 h1
  have hy:y=false:=by cases y with | false=>rfl | true=>exact absurd (h4.1 rfl) h2
  subst hy
  exact EO S hS0 h3
 ·intro h1 h2 h5
  obtain⟨y,a,b,h3,h4⟩:=hp.2 h1
  have hy:=h4.2 h2
  subst hy
  obtain⟨S',hc,hs⟩:=zA hS h1
  exact LI S S' ss hS0 h3 hc hs h1.len hS.QT h1.ne h5
 ·intro h1 h2 l h5
  obtain⟨y,a,b,h3,h4⟩:=hp.2 h1
  have hy:=h4.2 h2
  subst hy
  obtain⟨S',hc,hs⟩:=zA hS h1
  exact PO S S' ss hS0 h3 hc hs h1.len hS.QT h1.ne h5
end Go.AM.B1
namespace Go.AM.B1
open Go.AM Go.AM.So
theorem Jh:∀ (es:List PV),Bc (es.map .pv)=some es
 | []=>rfl
 |e::es=>by rw[List.map_cons,Bc,Jh es];rfl
def aU (f:Nat→Bool):List PV:=(List.range 256).map fun x=> .bool (f x)
def AT (l:List (Int×Int)) (x:Nat):Bool:=l.any fun p=>decide (p.1≤(x:Int))&&decide ((x:Int)≤p.2)
theorem Gt {l:List (Int×Int)} {x:Nat}:AT l x=true↔Eh (x:Int) l:=by
 unfold AT Eh;simp
theorem gq {l:List (Int×Int)} {last:Int} (h:Ka 255 last l=true):∀ p∈l,0≤p.1∧p.1≤p.2∧p.2≤255:=by
 induction l generalizing last with
 |nil=>intro p hp;cases hp
 |cons q l ih=>
  simp only[Ka,Bool.and_eq_true,Bool.not_eq_true',Bool.or_eq_false_iff,decide_eq_false_iff_not] at h
  intro p hp
  rcases List.mem_cons.1 hp with rfl | hp
  ·omega
  ·exact ih h.2 p hp
def Iy (l:List (Int×Int)) (x:Nat):Bool:=Ka 255 (-2) l&&AT l x
end Go.AM.B1
namespace Go.AM.B1
open Go.AM Go.AM.So
end Go.AM.B1
namespace Go.AM.B1
open Go.AM Go.AM.So
theorem DK (H:List aa) (x y:PV):na H false 1 (.pv (.rp [x,y] 1))=some (.pv y):=rfl
theorem UM (H:List aa) (x y:PV):na H true 2 (.pv (.rp [x,y] 0))=some (.pv (.agg [x,y])):=rfl
theorem Bg (H:List aa) (x:PV):na H false 1 (.pv (.rp [x] 0))=some (.pv x):=rfl
theorem NK (H:List aa) (x:PV):place H 0 (.pv (.rp [x] 0))=some (.pv (.rp [x] 0)):=rfl
theorem PL (H:List aa) (x:PV):na H true 1 (.pv (.rp [x] 0))=some (.pv (.agg [x])):=rfl
end Go.AM.B1
