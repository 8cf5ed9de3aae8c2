/- What functions of the program compute. -/
import Derived.Test.YtijlhblleiaomaaGreatN14
import Derived.Test.YtijlhblleiaomaaGreatN4
import Derived.Test.YtijlhblleiaomaaGreatN3
import Derived.Test.YtijlhblleiaomaaGreatN8
import Derived.Test.YtijlhblleiaomaaGreatN10
import Derived.Test.YtijlhblleiaomaaGreatN12
import Derived.Test.YtijlhblleiaomaaGreatN13
import Derived.Test.YtijlhblleiaomaaGreatN7
set_option linter.unusedVariables false
set_option linter.unusedSimpArgs false
namespace Go.AM.B1
open Go.AM Go.AM.So
def Qi (A:List aa) (d c:Nat) (o1 o2:aa) (X:List aa):List aa:=(A.set d o1).set c o2++X
structure fQ (A:List aa) (d c:Nat):Prop where
 ld:d < A.length
 lc:c < A.length
 ne:d≠c
section
variable {A:List aa} {d c:Nat} (h:fQ A d c) {o1 o2 o:aa} {X:List aa}
include h
theorem Kx:(Qi A d c o1 o2 X)[d]? =some o1:=by
 have:=h.ld;have:=h.ne
 unfold Qi
 rw[List.getElem?_append_left (by simp;omega),List.getElem?_set_ne (by omega),List.getElem?_set_self (by omega)]
theorem PC:(Qi A d c o1 o2 X)[c]? =some o2:=by
 have:=h.lc
 unfold Qi
 rw[List.getElem?_append_left (by simp;omega),List.getElem?_set_self (by simp;omega)]
theorem Az:(Qi A d c o1 o2 X).set d o=Qi A d c o o2 X:=by
 have:=h.ld;have:=h.ne
 unfold Qi
 rw[List.set_append_left _ _ (by simp;omega),List.set_comm _ _ (Ne.symm h.ne),List.set_set]
theorem lG:(Qi A d c o1 o2 X).set c o=Qi A d c o1 o X:=by
 have:=h.lc
 unfold Qi
 rw[List.set_append_left _ _ (by simp;omega),List.set_set]
omit h
theorem Oi:(Qi A d c o1 o2 X).length=A.length+X.length:=by simp[Qi]
theorem zR (k:Nat):(Qi A d c o1 o2 X)[A.length+k]? =X[k]? :=by
 unfold Qi
 rw[List.getElem?_append_right (by simp)];simp
theorem FE (k:Nat):(Qi A d c o1 o2 X).set (A.length+k) o=Qi A d c o1 o2 (X.set k o):=by
 unfold Qi
 rw[List.set_append_right _ _ (by simp)];simp
theorem Jn (Y:List aa):Qi A d c o1 o2 X++Y=Qi A d c o1 o2 (X++Y):=by unfold Qi;rw[List.append_assoc]
theorem mR {k:Nat} (hk:k < A.length) (h1:k≠d) (h2:k≠c):(Qi A d c o1 o2 X)[k]? =A[k]? :=by
 unfold Qi
 rw[List.getElem?_append_left (by simp;omega),List.getElem?_set_ne (by omega),List.getElem?_set_ne (by omega)]
end
def II (T:PV) (bad:Int) (c:Nat) (st at_ Sb:Int) (ea fin:Bool):List AV:=[.pv T,.pv (i64 bad),.ptr c 0,.pv (i64 st),.pv (i64 at_),.pv (i64 Sb),.pv (.bool ea),.pv (.bool fin)]
def xc (T:PV) (bad:Int) (c:Nat) (st at_ Sb:Int) (ea fin:Bool):aa:= .box (II T bad c st at_ Sb ea fin)
theorem gE {H:List aa} {c:Nat} {row:List PV} (hc:H[c]? =some (.box (row.map .pv))) (d:Nat):Ab H (d+1) (.ptr c 0)=some (.rp row 0):=by
 have key:∀ row:List PV,Va (Ab H d) (row.map .pv)=some row:=by
  intro row
  induction row with
  |nil=>rfl
  |cons p r ih=>
   have h1:Ab H d (.pv p)=some p:=He H d p
   simp only[List.map_cons,Va,h1,ih]
   rfl
 unfold Ab
 simp only[hc,key]
 rfl
section
variable {H:List aa} {d c:Nat} {T:PV} {bad st at_ Sb:Int} {ea fin:Bool} (h:H[d]? =some (xc T bad c st at_ Sb ea fin))
include h
theorem cT:sm H 1 (.ptr d 0) (.pv .yd)=some false:=by simp only[sm,h,xc]
theorem Ox (k:Nat):place H k (.ptr d 0)=some (.ptr d k):=xq h k
theorem ny {k:Nat} {v:AV} (hk:(II T bad c st at_ Sb ea fin)[k]? =some v):na H false 1 (.ptr d k)=some v:=by
 unfold na
 simp only[h,xc]
 show (II T bad c st at_ Sb ea fin)[k]? =_
 exact hk
theorem Zs:na H false 1 (.ptr d 0)=some (.pv T)∧na H false 1 (.ptr d 1)=some (.pv (i64 bad))∧na H false 1 (.ptr d 2)=some (.ptr c 0)∧na H false 1 (.ptr d 3)=some (.pv (i64 st))∧
 na H false 1 (.ptr d 4)=some (.pv (i64 at_))∧na H false 1 (.ptr d 5)=some (.pv (i64 Sb))∧na H false 1 (.ptr d 6)=some (.pv (.bool ea))∧na H false 1 (.ptr d 7)=some (.pv (.bool fin)):=
 ⟨ny h rfl,ny h rfl,ny h rfl,ny h rfl,ny h rfl,ny h rfl,ny h rfl,ny h rfl⟩
theorem wG {k:Nat} (hk:k < 8) {p:PV} (h1:(AV.pv p).one=true) (h2:p.cells=[p]):Pa H 1 (.ptr d k) (.pv p)=some (H.set d (.box ((II T bad c st at_ Sb ea fin).set k (.pv p)))):=by
 unfold Pa
 rw[if_pos ⟨by simp[AV.cells,h2],by simp[AV.cells,h2,h1]⟩]
 simp only[h,xc]
 rw[if_pos (by show k+1≤8;omega)]
 simp[AV.cells,h2,oa]
theorem vR (v:Int):Pa H 1 (.ptr d 3) (.pv (i64 v))=some (H.set d (xc T bad c v at_ Sb ea fin)):=wG h (by decide) rfl rfl
theorem oT (v:Int):Pa H 1 (.ptr d 4) (.pv (i64 v))=some (H.set d (xc T bad c st v Sb ea fin)):=wG h (by decide) rfl rfl
theorem dT (v:Int):Pa H 1 (.ptr d 5) (.pv (i64 v))=some (H.set d (xc T bad c st at_ v ea fin)):=wG h (by decide) rfl rfl
theorem VS (v:Bool):Pa H 1 (.ptr d 6) (.pv (.bool v))=some (H.set d (xc T bad c st at_ Sb v fin)):=wG h (by decide) rfl rfl
theorem TS (v:Bool):Pa H 1 (.ptr d 7) (.pv (.bool v))=some (H.set d (xc T bad c st at_ Sb ea v)):=wG h (by decide) rfl rfl
end
def Still (X:List aa):Prop:=∀ n,X.all (tD n)=true
theorem Still.nil:Still []:=fun _=>rfl
theorem Still.app {X Y:List aa} (h1:Still X) (h2:Still Y):Still (X++Y):=fun n=>by rw[List.all_append,h1 n,h2 n];rfl
theorem Still.tok (sz n:Nat) (nl:Bool):Still [.tok sz n nl]:=fun _=>rfl
theorem Still.dead:Still [.dead]:=fun _=>rfl
theorem Still.box (cs:List PV):Still [.box (cs.map .pv)]:=fun n=>by simp only[List.all_cons,List.all_nil,Qz,Bool.and_self]
theorem Still.cons {o:aa} {X:List aa} (h1:Still [o]) (h2:Still X):Still (o::X):=h1.app h2
theorem Still.Wt {A X:List aa} (hA:Kc A) (hX:Still X):Kc (A++X):=fun n hn o ho=>by
 rcases List.mem_append.1 ho with h | h
 ·exact hA n (by rw[List.length_append] at hn;omega) o h
 ·exact ZG (hX n) o h
theorem Xs {A:List aa} {d c:Nat} (hA:Kc A) (h2:fQ A d c) {T:PV} {bad st at_ Sb:Int} {ea fin:Bool} {buf:List Int} {r h m:Int} {X:List aa} (hX:Still X):Kc (Qi A d c (xc T bad c st at_ Sb ea fin) (ee buf r h m) X):=by
 intro n hn o ho
 rw[Oi] at hn
 unfold Qi at ho
 rcases List.mem_append.1 ho with h | h
 ·rcases List.mem_or_eq_of_mem_set h with h | rfl
  ·rcases List.mem_or_eq_of_mem_set h with h | rfl
   ·exact hA n (by omega) o h
   ·have:=h2.lc
    exact Qs (by simp[xc,II,tD,Oq,Rr,show c < n by omega])
  ·exact Qs (Qz n _)
 ·exact ZG (hX n) o h
theorem nD {call:Fa} {H:List aa} {c:Nat} {buf q:List Int} {h:Nat} {r:Int} (hG:Kc H) (hq:Ak buf h q) (hc:H[c]? =some (ee buf r h q.length)):
 Hd call Ib [.ptr c 0] H=some (.uq H.length false 1 (q.map u8),H++[.tok 1 q.length false]):=by
 have hlen:=lq (r:=r) hq
 have hat:=fun i (hi:i < q.length)=>fL (r:=r) hq hi
 have hn:=hq.n
 unfold ee at hc
 have hcl:c < H.length:=(List.getElem?_eq_some_iff.1 hc).1
 have tp:=gE hc 5
 have tp1:=fun Y=>gE (H:=H++Y) (show (H++Y)[c]? =_ by rw[List.getElem?_append_left hcl];exact hc) 5
 generalize mf buf r h q.length=row at *
 have hloop:=fun (E:Tr) (g0:E.get 0= .ptr c 0) (g3:E.get 3= .uq H.length false 1 []) (g11:E.get 11= .pv (i64 q.length)) (g12:E.get 12= .pv (i64 0))=>
  Zy (call:=call) (b:=Ie) (live:=[0,3,11,12]) (E0:=E) (H0:=H++[.tok 1 0 false]) (Q:=fun r=>∃ E,r=(.exit 0,⟨E,H++[.tok 1 q.length false]⟩)∧E.get 3= .uq H.length false 1 (q.map u8))
   (fun i:Nat=>[(0,.ptr c 0),(3,.uq H.length false 1 ((q.take i).map u8)),(11,.pv (i64 q.length)),(12,.pv (i64 i))]) (fun i=>H++[.tok 1 ((q.take i).map u8).length false]) (fun i x=>x=i) q.length (by unfold wa;omega) (fun _=>rfl)
   (fun i x _=>⟨by simp[Oq,Uy,Rr,show c < H.length+1 by omega],fun o ho=>by
    rcases List.mem_append.1 ho with h | h
    ·exact hG _ (by simp) o h
    ·simp at h;subst h;rfl,by simp⟩) ⟨0,⟨g0,g3,g11,g12,trivial⟩,rfl,rfl⟩
   (by
    rintro _ i E hi rfl ⟨g0,g3,g11,g12,_⟩
    have ha:=hat i hi
    have e1:decide ((i:Int) < (q.length:Int))=true:=Za (by omega)
    have t1:IntKind.i64.wrap ((i:Int)+1)=((i+1:Nat):Int):=Gh (by omega)
    have htk:(q.take (i+1)).map u8=(q.take i).map u8++[u8 q[i]]:=by rw[List.take_add_one,List.getElem?_eq_getElem hi,List.map_append];rfl
    have ap:Hc (H++[.tok 1 ((q.take i).map u8).length false]) false .uq 1 false 1 (.uq H.length false 1 ((q.take i).map u8)) (.pv (.lit 1 [u8 q[i]]))=some (.uq H.length false 1 ((q.take (i+1)).map u8),H++[.tok 1 ((q.take (i+1)).map u8).length false]):=by
     rw[PH (n:=((q.take i).map u8).length) (nl':=false) (by simp) rfl (by unfold Cb;simp;omega),htk]
     simp
    generalize q[i]=x at *
    have fl:Mk [u8 x,PV.bool true]=true:=rfl
    generalize hQ:RH _ _ _ _=Q
    simp -implicitDefEqProofs only[SP,WP,sevalprocAttr,Ie,g0,g3,g11,g12,e1,tp1,ha,fl,ap,t1,oa.eq_1,oa.eq_2,List.set,Bc,List.headD_cons]
    subst hQ
    exact⟨i+1,[],by simp[Has,Tr.ba,g0,g11],by simp,rfl⟩)
   (by
    rintro i E rfl ⟨g0,g3,g11,g12,_⟩
    have e1:decide ((q.length:Int) < (q.length:Int))=false:=mb (by omega)
    rw[List.take_length] at g3
    show ke _ (ga call Ie ⟨E,H++[.tok 1 ((q.take q.length).map u8).length false]⟩)
    rw[List.take_length,List.length_map]
    generalize hQ:(fun r:Ex×St=>r.1.stop=true∧_)=Q
    simp -implicitDefEqProofs only[SP,WP,sevalprocAttr,Ie,g11,g12,e1]
    subst hQ
    exact⟨rfl,_,rfl,by simp[Tr.ba,g3]⟩)
 have tp2:=tp1 [.tok 1 0 false]
 have fl0:∀ n,bh (i64 n)=true:=fun n=>rfl
 have hmk:∀ (E:Tr),E.get 8= .pv (i64 q.length)→da call E H (.ye .uq 1 false [.int .u8 0] 1 (.c (.int .i64 0)) (.t 8))=some (.uq H.length false 1 [],H++[.tok 1 0 false]):=fun E h8=>by
  simp only[da,AO.ev,h8,asInt,Option.bind_some]
  rw[if_pos ⟨by omega,by omega,by unfold Cb;omega⟩];rfl
 apply lz
 generalize hQ:(fun y:AV×List aa=>y=(AV.uq H.length false 1 (q.map u8),H++[.tok 1 q.length false]))=Q
 simp -implicitDefEqProofs only[SP,WP,sevalprocAttr,Ib,tp,tp2,hlen,fl0,↓hmk]
 refine Wa (hloop _ (by simp[Tr.ba]) (by simp[Tr.ba]) (by simp[Tr.ba]) (by simp[Tr.ba])) ?_
 rintro r ⟨_,E,rfl,h⟩
 simp -implicitDefEqProofs only[SP,WP,sevalprocAttr,h]
 subst hQ
 rfl
theorem oP {A:List aa} {d c:Nat} {o1 o2:aa} {X Y:List aa} (i:Nat):(Qi A d c o1 o2 (X++Y))[A.length+X.length+i]? =Y[i]? :=by
 rw[Nat.add_assoc,zR,List.getElem?_append_right (by omega)];simp
theorem LC {A:List aa} {d c:Nat} {o1 o2 o:aa} {X Y:List aa} (i:Nat):(Qi A d c o1 o2 (X++Y)).set (A.length+X.length+i) o=Qi A d c o1 o2 (X++Y.set i o):=by
 rw[Nat.add_assoc,FE,List.set_append_right _ _ (by omega)];simp
theorem dE {H:List aa} {c:Nat} {row:List PV} (hc:H[c]? =some (.box (row.map .pv))) (hl:row.length=5):na H true 5 (.ptr c 0)=some (.pv (.agg row)):=by
 match row,hl with
 | [a,b,e,f,g],_=>simp only[na,hc];rfl
theorem vD {H:List aa} {c:Nat} {row b:List PV} (hc:H[c]? =some (.box (row.map .pv))) (hl:row.length=5) (hb:b.length=5) (h1:∀ p∈b,(AV.pv p).one=true):Pa H 5 (.ptr c 0) (.pv (.agg b))=some (H.set c (.box (b.map .pv))):=by
 match row,hl,b,hb with
 | [a1,a2,a3,a4,a5],_,[b1,b2,b3,b4,b5],_=>
   have:=h1 b1 (by simp);have:=h1 b2 (by simp);have:=h1 b3 (by simp);have:=h1 b4 (by simp);have:=h1 b5 (by simp)
   unfold Pa
   rw[if_pos ⟨rfl,by simp_all [AV.cells,PV.cells]⟩]
   simp only[hc]
   rfl
def ET (a b:List PV):List aa:=[.box (a.map .pv),.box (b.map .pv)]
abbrev lr (k a n u:Int):List PV:=[i64 k,i64 a,i64 n,i64 u,i64 0]
theorem LD {k a n u:Int}:∀ p∈lr k a n u,(AV.pv p).one=true:=by
 intro p hp
 simp only[lr,List.mem_cons,List.not_mem_nil,or_false] at hp
 rcases hp with rfl | rfl | rfl | rfl | rfl <;> rfl
theorem Nw (a b:List PV):Still (ET a b):=(Still.box a).cons (Still.box b)
theorem VE {call call':Fa} {A:List aa} {d c:Nat} (hA:Kc A) (h2:fQ A d c) {X:List aa} (hX:Still X) {T:PV} {bad st Sb:Int} {at_:Nat} {ea fin:Bool} {buf q:List Int} {h:Nat} (hq:Ak buf h q)
 (h82:∀ H (n:Int),call 82 [.ptr c 0,.pv (i64 n)] H=Hd call' Nb [.ptr c 0,.pv (i64 n)] H) (h83:∀ H,call 83 [.ptr c 0] H=Hd call' Ib [.ptr c 0] H)
 (hat:at_≤1000000) {k u:Int} (hd:k=1→∃ ok,Ze [T,.lit 1 (q.map u8)]=some (.bc [i64 u,.bool ok])) (hu:k≠1→u=0):
 ∃ Y,Still Y∧Hd call xb [.ptr d 0,.pv (i64 k)] (Qi A d c (xc T bad c st at_ Sb ea fin) (ee buf 8 h q.length) X)=some (.pv (Dh ⟨k,q.length,u⟩ at_),Qi A d c (xc T bad c 0 ((at_+q.length:Nat):Int) Sb ea fin) (ee buf 8 ((h+q.length) % 8:Nat) 0) (X++Y)):=by
 have hn:=hq.n
 obtain⟨n,hnl⟩:∃ n,n=A.length+X.length:=⟨_,rfl⟩
 have hlen:=lq (r:=8) hq
 have hcl:c < A.length:=h2.lc
 obtain⟨G,hG⟩:∃ G:aa→aa→List PV→List PV→List aa→List aa,G=fun o1 o2 a b Z=>Qi A d c o1 o2 (X++(ET a b++Z)):=⟨_,rfl⟩
 have gd:∀ o1 o2 a b Z,(G o1 o2 a b Z)[d]? =some o1:=fun o1 o2 a b Z=>by rw[hG];exact Kx h2
 have gc:∀ o1 o2 a b Z,(G o1 o2 a b Z)[c]? =some o2:=fun o1 o2 a b Z=>by rw[hG];exact PC h2
 have g0:∀ o1 o2 a b Z,(G o1 o2 a b Z)[n]? =some (.box (a.map .pv)):=fun o1 o2 a b Z=>by rw[hG,hnl];exact oP 0
 have g1:∀ o1 o2 a b Z,(G o1 o2 a b Z)[n+1]? =some (.box (b.map .pv)):=fun o1 o2 a b Z=>by rw[hG,hnl];exact oP 1
 have sd:∀ o1 o2 a b Z o,(G o1 o2 a b Z).set d o=G o o2 a b Z:=fun o1 o2 a b Z o=>by rw[hG];exact Az h2
 have sc:∀ o1 o2 a b Z o,(G o1 o2 a b Z).set c o=G o1 o a b Z:=fun o1 o2 a b Z o=>by rw[hG];exact lG h2
 have s0:∀ o1 o2 a b Z r,(G o1 o2 a b Z).set n (.box (List.map AV.pv r))=G o1 o2 r b Z:=fun o1 o2 a b Z r=>by rw[hG,hnl];exact LC 0
 have s1:∀ o1 o2 a b Z r,(G o1 o2 a b Z).set (n+1) (.box (List.map AV.pv r))=G o1 o2 a r Z:=fun o1 o2 a b Z r=>by rw[hG,hnl];exact LC 1
 have gg:∀ st at_ h m a b Z,Still Z→Kc (G (xc T bad c st at_ Sb ea fin) (ee buf 8 h m) a b Z):=fun st at_ h m a b Z hZ=>by rw[hG];exact Xs hA h2 (hX.app ((Nw a b).app hZ))
 have gx:∀ o1 o2 a b Z Z',G o1 o2 a b Z++Z'=G o1 o2 a b (Z++Z'):=fun o1 o2 a b Z Z'=>by rw[hG];simp only[Jn,List.append_assoc]
 obtain⟨H0,hH0⟩:∃ H0,H0=Qi A d c (xc T bad c st at_ Sb ea fin) (ee buf 8 h q.length) X:=⟨_,rfl⟩
 rw[← hH0]
 have l0:H0.length=n:=by rw[hH0,hnl,Oi]
 obtain⟨z,hz⟩:∃ z:aa,z= .box [.pv (i64 0),.pv (i64 0),.pv (i64 0),.pv (i64 0),.pv (i64 0)]:=⟨_,rfl⟩
 have hz':aa.box [.pv (.int .i64 0),.pv (.int .i64 0),.pv (.int .i64 0),.pv (.int .i64 0),.pv (.int .i64 0)]=z:=hz.symm
 have l1:(H0++[z]).length=n+1:=by rw[List.length_append,l0];rfl
 have hd1:(H0++[z])[d]? =some (xc T bad c st at_ Sb ea fin):=by rw[hH0,Jn];exact Kx h2
 have hc1:(H0++[z])[c]? =some (ee buf 8 h q.length):=by rw[hH0,Jn];exact PC h2
 have p1:=Ox hd1
 have ld1:=Zs hd1
 have tp1:=gE hc1 5
 have st0:∀ m,Pa (H0++[z]++[z]) 5 (.ptr (n+1) 0) (.pv (.agg (lr k at_ m 0)))=some (G (xc T bad c st at_ Sb ea fin) (ee buf 8 h q.length) (lr 0 0 0 0) (lr k at_ m 0) []):=fun m=>by
  have:H0++[z]++[z]=G (xc T bad c st at_ Sb ea fin) (ee buf 8 h q.length) (lr 0 0 0 0) (lr 0 0 0 0) []:=by
   rw[hH0,hG,hz];simp only[Jn,List.append_assoc];rfl
  rw[this,vD (g1 _ _ _ _ _) rfl rfl LD,s1]
 have pd:∀ st at_ o2 a b Z k,place (G (xc T bad c st at_ Sb ea fin) o2 a b Z) k (.ptr d 0)=some (.ptr d k):=fun st at_ o2 a b Z k=>Ox (gd _ _ _ _ _) k
 have ldd:=fun st at_ o2 a b Z=>Zs (gd (xc T bad c st at_ Sb ea fin) o2 a b Z)
 have pe:∀ o1 o2 a b Z k,place (G o1 o2 a b Z) k (.ptr (n+1) 0)=some (.ptr (n+1) k):=fun o1 o2 a b Z k=>xq (g1 _ _ _ _ _) k
 have l2:∀ o1 o2 a k x m u Z,na (G o1 o2 a (lr k x m u) Z) false 1 (.ptr (n+1) 2)=some (.pv (i64 m)):=fun o1 o2 a k x m u Z=>Am (g1 _ _ _ _ _) rfl
 have st3:∀ o1 o2 a k x m u v Z,Pa (G o1 o2 a (lr k x m u) Z) 1 (.ptr (n+1) 3) (.pv (i64 v))=some (G o1 o2 a (lr k x m v) Z):=fun o1 o2 a k x m u v Z=>by
  rw[kv (g1 _ _ _ _ _) (show 3 < 5 by decide) rfl rfl,s1];rfl
 have lT:∀ o1 o2 a k x m u Z,na (G o1 o2 a (lr k x m u) Z) true 5 (.ptr (n+1) 0)=some (.pv (.agg (lr k x m u))):=fun o1 o2 a k x m u Z=>dE (g1 _ _ _ _ _) rfl
 have sT:∀ o1 o2 b k x m u Z,Pa (G o1 o2 (lr 0 0 0 0) b Z) 5 (.ptr n 0) (.pv (.agg (lr k x m u)))=some (G o1 o2 (lr k x m u) b Z):=fun o1 o2 b k x m u Z=>by
  rw[vD (g0 _ _ _ _ _) rfl rfl LD,s0]
 have lR:∀ o1 o2 b k x m u Z,na (G o1 o2 (lr k x m u) b Z) true 5 (.ptr n 0)=some (.pv (.agg (lr k x m u))):=fun o1 o2 b k x m u Z=>dE (g0 _ _ _ _ _) rfl
 have w1:IntKind.i64.wrap ((at_:Int)+(q.length:Int))=((at_+q.length:Nat):Int):=(Da (by omega)).trans (by omega)
 have sat:∀ o2 a b Z v,Pa (G (xc T bad c st at_ Sb ea fin) o2 a b Z) 1 (.ptr d 4) (.pv (i64 v))=some (G (xc T bad c st v Sb ea fin) o2 a b Z):=fun o2 a b Z v=>by rw[oT (gd _ _ _ _ _),sd]
 have sst:∀ at_ o2 a b Z v,Pa (G (xc T bad c st at_ Sb ea fin) o2 a b Z) 1 (.ptr d 3) (.pv (i64 v))=some (G (xc T bad c v at_ Sb ea fin) o2 a b Z):=fun at_ o2 a b Z v=>by rw[vR (gd _ _ _ _ _),sd]
 have hdr:∀ at_ a b Z,call 82 [.ptr c 0,.pv (i64 q.length)] (G (xc T bad c st at_ Sb ea fin) (ee buf 8 h q.length) a b Z)=some (.pv (i64 0),G (xc T bad c st at_ Sb ea fin) (ee buf 8 ((h+q.length) % 8:Nat) 0) a b Z):=fun at_ a b Z=>by
  rw[h82,(Hr (call:=call') hq (gc _ _ _ _ _) (Nat.le_refl _)).2,sc,List.drop_length];rfl
 have fin0:∀ Z,Still Z→G (xc T bad c 0 ((at_+q.length:Nat):Int) Sb ea fin) (ee buf 8 ((h+q.length) % 8:Nat) 0) (lr k at_ q.length u) (lr k at_ q.length u) Z=Qi A d c (xc T bad c 0 ((at_+q.length:Nat):Int) Sb ea fin) (ee buf 8 ((h+q.length) % 8:Nat) 0) (X++(ET (lr k at_ q.length u) (lr k at_ q.length u)++Z)):=fun Z _=>by rw[hG]
 have he:Dh ⟨k,q.length,u⟩ at_= .agg (lr k at_ q.length u):=rfl
 by_cases hk:k=1
 ·obtain⟨ok,ta⟩:=hd hk
  have hb:=nD (call:=call') (gg st at_ h q.length (lr 0 0 0 0) (lr k at_ q.length 0) [] Still.nil) hq (gc _ _ _ _ _)
  rw[gx,List.nil_append,←h83] at hb
  generalize (G (xc T bad c st at_ Sb ea fin) (ee buf 8 h q.length) (lr 0 0 0 0) (lr k at_ q.length 0) []).length=nb at hb
  refine⟨_,(Nw (lr k at_ q.length u) (lr k at_ q.length u)).app (Still.tok 1 q.length false),?_⟩
  rw[← fin0 _ (Still.tok 1 q.length false),he]
  have e1:(k==1)=true:=by rw[hk];rfl
  have tq:∀ H,Ab H 6 (.uq nb false 1 (q.map u8))=some (.lit 1 (q.map u8)):=fun H=>rfl
  have sh:=yC (G (xc T bad c st at_ Sb ea fin) (ee buf 8 h q.length) (lr 0 0 0 0) (lr k at_ q.length 0) []) [.tok 1 q.length false]
  rw[gx,List.nil_append] at sh
  clear hG hH0 hz gg gx s0 s1 sd sc g0 g1 gd gc h82 h83 fin0 hd hu he
  simp -implicitDefEqProofs only[SP,WP,sevalprocAttr,xb,l0,l1,hz',p1,ld1,tp1,hlen,oa.eq_1,oa.eq_2,List.set,Bc,st0,e1,pd,ldd,pe,l2,hb,sh,tq,ta,st3,w1,sat,hdr,sst,lT,sT,lR]
 ·have hu0:=hu hk
  subst hu0
  refine⟨_,(Nw (lr k at_ q.length 0) (lr k at_ q.length 0)).app Still.nil,?_⟩
  rw[← fin0 _ Still.nil,he]
  have e1:(k==1)=false:=beq_false_of_ne hk
  clear hG hH0 hz gg gx s0 s1 sd sc g0 g1 gd gc h82 h83 fin0 hd he
  simp -implicitDefEqProofs only[SP,WP,sevalprocAttr,xb,l0,l1,hz',p1,ld1,tp1,hlen,oa.eq_1,oa.eq_2,List.set,Bc,st0,e1,pd,ldd,pe,l2,w1,sat,hdr,sst,lT,sT,lR]
end Go.AM.B1
namespace Go.AM.B1
open Go.AM Go.AM.So
theorem gS {call:Fa} (k:Nat) (s:St):ga call (.goto k) s=some (.goto k,s):=rfl
theorem dQ {call:Fa} (k:Nat) (a b:Ia) (s:St):ga call (.jumps k a b) s=Xo k (ga call b) (ga call a s):=rfl
theorem OL (f:St→Option (Ex×St)) (n:Nat) (s:St):Tt f (some (.goto n,s))=some (.goto n,s):=rfl
def Fq (A:List aa) (d c:Nat) (o1 o2:aa) (X:List aa) (n:Nat) (nl:Bool) (Y:List aa):List aa:=Qi A d c o1 o2 (X++ .tok 5 n nl::Y)
section
variable {A:List aa} {d c:Nat} {o1 o2:aa} {X Y:List aa} {n:Nat} {nl:Bool}
theorem nR:(Fq A d c o1 o2 X n nl Y)[A.length+X.length]? =some (.tok 5 n nl):=by
 unfold Fq;rw[zR,List.getElem?_append_right (Nat.le_refl _),Nat.sub_self];rfl
theorem tP (m:Nat) (b:Bool):(Fq A d c o1 o2 X n nl Y).set (A.length+X.length) (.tok 5 m b)=Fq A d c o1 o2 X m b Y:=by
 unfold Fq;rw[FE,List.set_append_right _ _ (Nat.le_refl _),Nat.sub_self];rfl
theorem sI {es:List PV} (e:PV) (hn:n=es.length) (hl:es.length≤1000000000000):Hc (Fq A d c o1 o2 X n nl Y) false .uq 5 true 40 (.uq (A.length+X.length) nl 5 es) (.pv (.lit 5 [e]))=some (.uq (A.length+X.length) false 5 (es++[e]),Fq A d c o1 o2 X (es++[e]).length false Y):=by
 subst hn
 rw[Nk nR rfl (by unfold Cb;omega),tP,List.length_append];rfl
end
theorem Still.Fq {X Y:List aa} {n:Nat} {nl:Bool} (hX:Still X) (hY:Still Y):Still (X++ .tok 5 n nl::Y):=hX.app ((Still.tok 5 n nl).cons hY)
section
variable {T:PV} {ss:List ec} {l:List (List je)} (hT:er T ss l) (ta:ue ss) (ho:∀ e∈l,Qj e)
variable {call call':Fa} {A:List aa} {d c:Nat} (hA:Kc A) (h2:fQ A d c) {bad Sb:Int} {ea fin:Bool}
 (h89:∀ H (k:Int),call 89 [.ptr d 0,.pv (i64 k)] H=Hd call' xb [.ptr d 0,.pv (i64 k)] H)
 (h81:∀ H (x:Int),call 81 [.ptr c 0,.pv (u8 x)] H=Hd call' yc [.ptr c 0,.pv (u8 x)] H)
 {call'':Fa} (h82:∀ H (n:Int),call' 82 [.ptr c 0,.pv (i64 n)] H=Hd call'' Nb [.ptr c 0,.pv (i64 n)] H) (h83:∀ H,call' 83 [.ptr c 0] H=Hd call'' Ib [.ptr c 0] H)
include hT ta hA h2 h89 h82 h83
theorem XF {st:Int} {at_:Nat} (hat:at_≤1000000) {buf q:List Int} {h:Nat} (hq:Ak buf h q) {X:List aa} (hX:Still X) {n:Nat} {nl:Bool} {Y:List aa} (hY:Still Y) {k u:Int} (hu:u=if k=1 then (yx q ss).getD 0 else 0):
 ∃ Y',Still Y'∧call 89 [.ptr d 0,.pv (i64 k)] (Fq A d c (xc T bad c st at_ Sb ea fin) (ee buf 8 h q.length) X n nl Y)=some (.pv (Dh ⟨k,q.length,u⟩ at_),Fq A d c (xc T bad c 0 ((at_+q.length:Nat):Int) Sb ea fin) (ee buf 8 ((h+q.length) % 8:Nat) ([]:List Int).length) X n nl Y'):=by
 rw[h89]
 obtain⟨Y',y1,y2⟩:=VE (call:=call') (call':=call'') hA h2 (hX.Fq hY (n:=n) (nl:=nl)) (T:=T) (bad:=bad) (st:=st) (Sb:=Sb) (at_:=at_) (ea:=ea) (fin:=fin) hq h82 h83 hat (k:=k) (u:=u)
  (fun hk=>by
   have:=UN hT ta (B:= .lit 1 (q.map u8)) (bs:=q) ⟨.inr rfl,hq.iw⟩
   rw[if_pos hk] at hu
   subst hu
   cases hc:yx q ss with
   |some v=>exact⟨true,by rw[hc] at this;exact this⟩
   |none=>exact⟨false,by rw[hc] at this;exact this⟩)
  (fun hk=>by rw[if_neg hk] at hu;exact hu)
 refine⟨Y++Y',hY.app y1,?_⟩
 unfold Fq
 rw[y2,List.append_assoc,List.cons_append];rfl
include h81 ho
def rl (ss:List ec) (l:List (List je)) (q:List Int) (st x:Int):List Ty×List Int×Int:=
 if (de l st x).2=true then (if (de l st x).1= -1 then ([⟨1,q.length+1,(yx (q++[x]) ss).getD 0⟩],[],0) else ([],q++[x],(de l st x).1)) else ([⟨2,q.length+1,0⟩],[],0)
theorem WL {st:Int} {at_:Nat} (hat:at_≤1000000) {buf q:List Int} {h:Nat} (hq:Ak buf h q) (hl:q.length < 8) {x:Int} (hx:0≤x∧x≤255) (h0:(de l st x).2=true∨st=0) {X:List aa} (hX:Still X) {es:List PV} (hes:es.length≤1000000000) {nl:Bool} {Y:List aa} (hY:Still Y)
 {E:Tr} (g0:E.get 0= .ptr d 0) (g1:E.get 1= .pv (u8 x)) (g5:E.get 5= .uq (A.length+X.length) nl 5 es) {R:List Ty×List Int×Int} (hR:R=rl ss l q st x):
 ke (fun r=>∃ E' nl' buf' h' Y',r=(.ret,⟨E',Fq A d c (xc T bad c R.2.2 ((at_+(R.1.map (·.size)).sum:Nat):Int) Sb ea fin) (ee buf' 8 h' R.2.1.length) X (es++Re at_ R.1).length nl' Y'⟩)∧
  E'.get 4= .uq (A.length+X.length) nl' 5 (es++Re at_ R.1)∧Ak buf' h' R.2.1∧Still Y'∧(nl'=true→nl=true∧R.1=[])) (ga call yb ⟨E,Fq A d c (xc T bad c st at_ Sb ea fin) (ee buf 8 h q.length) X es.length nl Y⟩):=by
 have hst:=GC hT ho hx (st:=st)
 obtain⟨K,hK⟩:∃ K:aa→aa→Nat→Bool→List aa→List aa,K=fun o1 o2 m nl Y=>Fq A d c o1 o2 X m nl Y:=⟨_,rfl⟩
 have hK':∀ o1 o2 m nl Y,Fq A d c o1 o2 X m nl Y=K o1 o2 m nl Y:=fun o1 o2 m nl Y=>by rw[hK]
 have gd:∀ o1 o2 m nl Y,(K o1 o2 m nl Y)[d]? =some o1:=fun o1 o2 m nl Y=>by rw[hK];exact Kx h2
 have gc:∀ o1 o2 m nl Y,(K o1 o2 m nl Y)[c]? =some o2:=fun o1 o2 m nl Y=>by rw[hK];exact PC h2
 have sd:∀ o1 o2 m nl Y o,(K o1 o2 m nl Y).set d o=K o o2 m nl Y:=fun o1 o2 m nl Y o=>by rw[hK];exact Az h2
 have sc:∀ o1 o2 m nl Y o,(K o1 o2 m nl Y).set c o=K o1 o m nl Y:=fun o1 o2 m nl Y o=>by rw[hK];exact lG h2
 have pd:∀ st at_ o2 m nl Y k,place (K (xc T bad c st at_ Sb ea fin) o2 m nl Y) k (.ptr d 0)=some (.ptr d k):=fun st at_ o2 m nl Y k=>Ox (gd _ _ _ _ _) k
 have ldd:=fun st at_ o2 m nl Y=>Zs (gd (xc T bad c st at_ Sb ea fin) o2 m nl Y)
 have sst:∀ at_ o2 m nl Y v,Pa (K (xc T bad c st at_ Sb ea fin) o2 m nl Y) 1 (.ptr d 3) (.pv (i64 v))=some (K (xc T bad c v at_ Sb ea fin) o2 m nl Y):=fun at_ o2 m nl Y v=>by rw[vR (gd _ _ _ _ _),sd]
 obtain⟨buf',hq',hpu⟩:=jO (call:=call') hq (gc (xc T bad c st at_ Sb ea fin) (ee buf 8 h q.length) es.length nl Y) hl hx
 rw[sc,←h81] at hpu
 have ap:∀ o1 o2 Y e,Hc (K o1 o2 es.length nl Y) false .uq 5 true 40 (.uq (A.length+X.length) nl 5 es) (.pv (.lit 5 [e]))=some (.uq (A.length+X.length) false 5 (es++[e]),K o1 o2 (es++[e]).length false Y):=fun o1 o2 Y e=>by rw[hK];exact sI e rfl (by omega)
 have bsl:∀ (e:Ty) (a:Int) (H:List aa),((if (List.map AV.pv (Dh e a).cells).length=5∧(List.map AV.pv (Dh e a).cells).all AV.one=true then some (oa [AV.pv (PV.int IntKind.i64 0),AV.pv (PV.int IntKind.i64 0),AV.pv (PV.int IntKind.i64 0),AV.pv (PV.int IntKind.i64 0),AV.pv (PV.int IntKind.i64 0)] 0 (List.map AV.pv (Dh e a).cells)) else none).bind fun cs=>
  if cs.all AV.one=true then Option.map (fun ps=>(AV.pv (PV.lit 5 [PV.agg (List.take 5 ps)]),H)) (Bc cs) else none)=some (.pv (.lit 5 [Dh e a]),H):=fun e a H=>rfl
 have hlen1:(q++[x]).length=q.length+1:=by simp
 have hsh:=fun (k u:Int) (hu:u=if k=1 then (yx (q++[x]) ss).getD 0 else 0)=>XF hT ta hA h2 h89 h82 h83 (bad:=bad) (Sb:=Sb) (ea:=ea) (fin:=fin) (st:=st) hat hq' hX (n:=es.length) (nl:=nl) hY (k:=k) (u:=u) hu
 unfold rl at hR
 generalize hs1:(de l st x).1=s1 at *
 generalize hs2:(de l st x).2=s2 at *
 simp only[hK'] at hsh ⊢
 clear hK hK' sc gc gd h89 h81 h82 h83
 cases s2 with
 |true=>
  rw[if_pos rfl] at hR
  by_cases h1:s1= -1
  ·rw[if_pos h1] at hR
   subst hR
   have e1:(s1== -1)=true:=by rw[h1];rfl
   obtain⟨Y',y1,y2⟩:=hsh 1 _ rfl
   rw[if_pos rfl] at y2
   simp only[hlen1] at y2 hpu
   generalize hQ:(fun r:Ex×St=>∃ E' nl' buf' h' Y',r=_∧_)=Q
   simp -implicitDefEqProofs only[SX,sevalprocAttr,yb,g0,g1,g5,pd,ldd,hst,hpu,e1,y2,bsl,ap]
   subst hQ
   refine⟨_,false,buf',(h+(q.length+1)) % 8,Y',rfl,?_,?_,y1,fun h=>by cases h⟩
   ·simp[Tr.ba,Re]
   ·have:=(Hr (call:=call) hq' (H:=[.box ((mf buf' 8 h (q++[x]).length).map .pv)]) (c:=0) rfl (Nat.le_refl _)).1
    rw[List.drop_length,hlen1] at this
    exact this
  ·rw[if_neg h1] at hR
   subst hR
   have e1:(s1== -1)=false:=beq_false_of_ne h1
   generalize hQ:(fun r:Ex×St=>∃ E' nl' buf' h' Y',r=_∧_)=Q
   simp -implicitDefEqProofs only[SX,sevalprocAttr,yb,g0,g1,g5,pd,ldd,hst,hpu,e1,sst]
   subst hQ
   exact⟨_,nl,buf',h,Y,by rw[show es++Re at_ []=es from List.append_nil es];rfl,by simp[Tr.ba,Re,g5],hq',hY,fun h=>⟨h,rfl⟩⟩
 |false=>
  rw[if_neg (by simp)] at hR
  subst hR
  have h00:st=0:=h0.resolve_left (by simp)
  subst h00
  have z0:((0:Int) != 0)=false:=rfl
  obtain⟨Y',y1,y2⟩:=hsh 2 0 rfl
  simp only[hlen1] at y2 hpu
  generalize hQ:(fun r:Ex×St=>∃ E' nl' buf' h' Y',r=_∧_)=Q
  simp -implicitDefEqProofs only[SX,sevalprocAttr,yb,g0,g1,g5,pd,ldd,hst,hpu,z0,y2,bsl,ap]
  subst hQ
  refine⟨_,false,buf',(h+(q.length+1)) % 8,Y',rfl,?_,?_,y1,fun h=>by cases h⟩
  ·simp[Tr.ba,Re]
  ·have:=(Hr (call:=call) hq' (H:=[.box ((mf buf' 8 h (q++[x]).length).map .pv)]) (c:=0) rfl (Nat.le_refl _)).1
   rw[List.drop_length,hlen1] at this
   exact this
omit h81 in
theorem uK {st:Int} {at_:Nat} (hat:at_≤1000000) {buf q:List Int} {h:Nat} (hq:Ak buf h q) {x:Int} (hx:0≤x∧x≤255) (h0:(de l st x).2=false∧st≠0) {X:List aa} (hX:Still X) {es:List PV} (hes:es.length≤1000000000) {nl:Bool} {Y:List aa} (hY:Still Y)
 {E:Tr} (g0:E.get 0= .ptr d 0) (g1:E.get 1= .pv (u8 x)) (g5:E.get 5= .uq (A.length+X.length) nl 5 es):
 ke (fun r=>∃ E' Y' buf' h',r=(if bad=3 then .ret else .goto 0,⟨E',Fq A d c (xc T bad c 0 ((at_+q.length:Nat):Int) Sb ea fin) (ee buf' 8 h' ([]:List Int).length) X (es++[Dh ⟨2,q.length,0⟩ at_]).length false Y'⟩)∧
  (bad=3→E'.get 4= .uq (A.length+X.length) false 5 (es++[Dh ⟨2,q.length,0⟩ at_]))∧E'.get 5= .uq (A.length+X.length) false 5 (es++[Dh ⟨2,q.length,0⟩ at_])∧E'.get 0= .ptr d 0∧E'.get 1= .pv (u8 x)∧Still Y'∧Ak buf' h' [])
  (ga call yb ⟨E,Fq A d c (xc T bad c st at_ Sb ea fin) (ee buf 8 h q.length) X es.length nl Y⟩):=by
 have hst:=GC hT ho hx (st:=st)
 obtain⟨K,hK⟩:∃ K:aa→aa→Nat→Bool→List aa→List aa,K=fun o1 o2 m nl Y=>Fq A d c o1 o2 X m nl Y:=⟨_,rfl⟩
 have hK':∀ o1 o2 m nl Y,Fq A d c o1 o2 X m nl Y=K o1 o2 m nl Y:=fun o1 o2 m nl Y=>by rw[hK]
 have gd:∀ o1 o2 m nl Y,(K o1 o2 m nl Y)[d]? =some o1:=fun o1 o2 m nl Y=>by rw[hK];exact Kx h2
 have pd:∀ st at_ o2 m nl Y k,place (K (xc T bad c st at_ Sb ea fin) o2 m nl Y) k (.ptr d 0)=some (.ptr d k):=fun st at_ o2 m nl Y k=>Ox (gd _ _ _ _ _) k
 have ldd:=fun st at_ o2 m nl Y=>Zs (gd (xc T bad c st at_ Sb ea fin) o2 m nl Y)
 have ap:∀ o1 o2 Y e,Hc (K o1 o2 es.length nl Y) false .uq 5 true 40 (.uq (A.length+X.length) nl 5 es) (.pv (.lit 5 [e]))=some (.uq (A.length+X.length) false 5 (es++[e]),K o1 o2 (es++[e]).length false Y):=fun o1 o2 Y e=>by rw[hK];exact sI e rfl (by omega)
 have bsl:∀ (e:Ty) (a:Int) (H:List aa),((if (List.map AV.pv (Dh e a).cells).length=5∧(List.map AV.pv (Dh e a).cells).all AV.one=true then some (oa [AV.pv (PV.int IntKind.i64 0),AV.pv (PV.int IntKind.i64 0),AV.pv (PV.int IntKind.i64 0),AV.pv (PV.int IntKind.i64 0),AV.pv (PV.int IntKind.i64 0)] 0 (List.map AV.pv (Dh e a).cells)) else none).bind fun cs=>
  if cs.all AV.one=true then Option.map (fun ps=>(AV.pv (PV.lit 5 [PV.agg (List.take 5 ps)]),H)) (Bc cs) else none)=some (.pv (.lit 5 [Dh e a]),H):=fun e a H=>rfl
 obtain⟨Y',y1,y2⟩:=XF hT ta hA h2 h89 h82 h83 (bad:=bad) (Sb:=Sb) (ea:=ea) (fin:=fin) (st:=st) hat hq hX (n:=es.length) (nl:=nl) hY (k:=2) (u:=0) rfl
 have hqn:=(Hr (call:=call) hq (H:=[.box ((mf buf 8 h q.length).map .pv)]) (c:=0) rfl (Nat.le_refl _)).1
 rw[List.drop_length] at hqn
 rw[h0.1] at hst
 generalize hs1:(de l st x).1=s1 at *
 simp only[hK'] at y2 ⊢
 clear hK hK' gd h89 h82 h83
 have z0:(st != 0)=true:=by simp[h0.2]
 by_cases h3:bad=3
 ·have e3:(bad==3)=true:=by rw[h3];rfl
  rw[if_pos h3]
  generalize hQ:(fun r:Ex×St=>∃ E' Y' buf' h',r=_∧_)=Q
  simp -implicitDefEqProofs only[SX,sevalprocAttr,yb,g0,g1,g5,pd,ldd,hst,z0,y2,bsl,ap,e3]
  subst hQ
  exact⟨_,Y',buf,_,rfl,fun _=>by simp[Tr.ba],by simp[Tr.ba],by simp[Tr.ba,g0],by simp[Tr.ba,g1],y1,hqn⟩
 ·have e3:(bad==3)=false:=beq_false_of_ne h3
  rw[if_neg h3]
  generalize hQ:(fun r:Ex×St=>∃ E' Y' buf' h',r=_∧_)=Q
  simp -implicitDefEqProofs only[SX,sevalprocAttr,yb,g0,g1,g5,pd,ldd,hst,z0,y2,bsl,ap,e3,gS,OL]
  subst hQ
  exact⟨_,Y',buf,_,rfl,fun h=>absurd h h3,by simp[Tr.ba],by simp[Tr.ba,g0],by simp[Tr.ba,g1],y1,hqn⟩
end
end Go.AM.B1
namespace Go.AM.B1
open Go.AM Go.AM.So
def Bl (T:PV) (bad:Int) (C:PV) (st at_ Sb:Int) (ea fin:Bool):List PV:=[T,i64 bad,C,i64 st,i64 at_,i64 Sb,.bool ea,.bool fin]
theorem Vr {H:List aa} {d c:Nat} {T:PV} {bad st at_ Sb:Int} {ea fin:Bool} {buf:List Int} {r h n:Int} (hd:H[d]? =some (xc T bad c st at_ Sb ea fin)) (hc:H[c]? =some (ee buf r h n)):
 Ab H 6 (.ptr d 0)=some (.rp (Bl T bad (.rp (mf buf r h n) 0) st at_ Sb ea fin) 0):=by
 have h1:=gE hc 4
 rw[Ab]
 simp only[hd,xc,II,Va,yv,h1,Option.bind_some,Option.map_some]
 rfl
section
variable (T:PV) (bad:Int) (C:PV) (st at_ Sb:Int) (ea fin:Bool) (H:List aa)
theorem Sv:na H false 1 (.pv (.rp (Bl T bad C st at_ Sb ea fin) 0))=some (.pv T)∧na H false 1 (.pv (.rp (Bl T bad C st at_ Sb ea fin) 1))=some (.pv (i64 bad))∧na H false 1 (.pv (.rp (Bl T bad C st at_ Sb ea fin) 2))=some (.pv C)∧
 na H false 1 (.pv (.rp (Bl T bad C st at_ Sb ea fin) 5))=some (.pv (i64 Sb))∧na H false 1 (.pv (.rp (Bl T bad C st at_ Sb ea fin) 6))=some (.pv (.bool ea))∧na H false 1 (.pv (.rp (Bl T bad C st at_ Sb ea fin) 7))=some (.pv (.bool fin)):=⟨rfl,rfl,rfl,rfl,rfl,rfl⟩
end
section
variable {T:PV} {bad:Int} {C:PV} {st at_ Sb:Int} {ea fin:Bool}
theorem Eu:tc [.rp (Bl T bad C st at_ Sb ea fin) 0]=some (i64 (if fin then 181 else if ea then 182 else 0)):=by
 have ld:=Sv T bad C st at_ Sb ea fin
 have pl:=Us (Bl T bad C st at_ Sb ea fin)
 generalize Bl T bad C st at_ Sb ea fin=row at *
 have e1:∀ H,sm H 1 (.pv (.rp row 0)) (.pv .yd)=some false:=fun H=>rfl
 cases fin with
 |true=>simp -implicitDefEqProofs only[tc,SX,sevalprocAttr,De,e1,pl,ld,if_true]
 |false=>
  cases ea with
  |true=>simp -implicitDefEqProofs only[tc,SX,sevalprocAttr,De,e1,pl,ld,if_true,Bool.false_eq_true,if_false]
  |false=>simp -implicitDefEqProofs only[tc,SX,sevalprocAttr,De,e1,pl,ld,Bool.false_eq_true,if_false]
theorem AH:Qc [.rp (Bl T bad C st at_ Sb ea fin) 0]=some (i64 Sb):=by
 have ld:=Sv T bad C st at_ Sb ea fin
 have pl:=Us (Bl T bad C st at_ Sb ea fin)
 generalize Bl T bad C st at_ Sb ea fin=row at *
 have e1:∀ H,sm H 1 (.pv (.rp row 0)) (.pv .yd)=some false:=fun H=>rfl
 simp -implicitDefEqProofs only[Qc,SX,sevalprocAttr,rh,e1,pl,ld]
theorem uD:Yc [.rp (Bl T bad C st at_ Sb ea fin) 0]=some (.bool ea):=by
 have ld:=Sv T bad C st at_ Sb ea fin
 have pl:=Us (Bl T bad C st at_ Sb ea fin)
 generalize Bl T bad C st at_ Sb ea fin=row at *
 have e1:∀ H,sm H 1 (.pv (.rp row 0)) (.pv .yd)=some false:=fun H=>rfl
 simp -implicitDefEqProofs only[Yc,SX,sevalprocAttr,Qg,e1,pl,ld]
theorem oC {buf q:List Int} {h:Nat} {r:Int} (hq:Ak buf h q):Cc [.rp (Bl T bad (.rp (mf buf r h q.length) 0) st at_ Sb ea fin) 0]=some (i64 q.length):=by
 have hl:=lq (r:=r) hq
 have ld:=Sv T bad (.rp (mf buf r h q.length) 0) st at_ Sb ea fin
 have pl:=Us (Bl T bad (.rp (mf buf r h q.length) 0) st at_ Sb ea fin)
 generalize Bl T bad (.rp (mf buf r h q.length) 0) st at_ Sb ea fin=row at *
 have e1:∀ H,sm H 1 (.pv (.rp row 0)) (.pv .yd)=some false:=fun H=>rfl
 simp -implicitDefEqProofs only[Cc,SX,sevalprocAttr,Qh,e1,pl,ld,hl]
theorem jH {buf q:List Int} {h:Nat} {r:Int} (hq:Ak buf h q):vh [.rp (mf buf r h q.length) 0]=some (i64 r):=by
 obtain⟨c8,c9,c10⟩:=Lz hq.len (r:=r) (h:=h) (n:=q.length)
 generalize mf buf r h q.length=row at *
 have e1:∀ H,sm H 1 (.pv (.rp row 0)) (.pv .yd)=some false:=fun H=>rfl
 have pl:=Us row
 have ld:=fun H=>iE c8 H
 simp -implicitDefEqProofs only[vh,SX,sevalprocAttr,tj,e1,pl,ld]
theorem uL {buf q:List Int} {h:Nat} {r:Int} (hq:Ak buf h q):Vd [.rp (Bl T bad (.rp (mf buf r h q.length) 0) st at_ Sb ea fin) 0]=some (i64 r):=by
 have hl:=jH (r:=r) hq
 have ld:=Sv T bad (.rp (mf buf r h q.length) 0) st at_ Sb ea fin
 have pl:=Us (Bl T bad (.rp (mf buf r h q.length) 0) st at_ Sb ea fin)
 generalize Bl T bad (.rp (mf buf r h q.length) 0) st at_ Sb ea fin=row at *
 have e1:∀ H,sm H 1 (.pv (.rp row 0)) (.pv .yd)=some false:=fun H=>rfl
 simp -implicitDefEqProofs only[Vd,SX,sevalprocAttr,Ph,e1,pl,ld,hl]
end
end Go.AM.B1
namespace Go.AM.B1
open Go.AM Go.AM.So
section
variable {S:PV} {ss:List ec} {es:List PV} (hS:Ld S ss es) (ta:ue ss)
include hS ta
end
end Go.AM.B1
namespace Go.AM.B1
open Go.AM
end Go.AM.B1
namespace Go.AM.B1
open Go.AM Go.AM.So
theorem ej.take {B:PV} {bs:List Int} (h:ej B bs) {n:Nat} (hn:n≤bs.length):∃ B',(∀ H,Ad H 1 (.pv B) none (some (n:Int))=some (.pv B'))∧ej B' (bs.take n)∧(AV.pv B').one=true:=by
 rcases h.is with⟨rfl,hb⟩ | rfl
 ·have:bs=[]:=by simpa using hb
  subst this
  have:n=0:=by simpa using hn
  subst this
  exact⟨.qa,fun H=>rfl,⟨.inl ⟨rfl,rfl⟩,by simp⟩,rfl⟩
 ·refine⟨.lit 1 ((bs.take n).map (PV.int .u8)),fun H=> ?_,⟨.inr rfl,fun b hb=>h.iw b (List.mem_of_mem_take hb)⟩,rfl⟩
  simp only[Ad,Option.getD_some,Option.getD_none]
  rw[if_pos ⟨by omega,trivial,by omega,by omega,by simp;omega⟩]
  simp[List.map_take]
end Go.AM.B1
