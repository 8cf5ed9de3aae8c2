/- What functions of the program compute. -/
import Derived.Test.YtijlhblleiaomaaGreatN4
import Derived.Test.YtijlhblleiaomaaGreatJ3
import Derived.Test.YtijlhblleiaomaaGreatN1
import Derived.Test.YtijlhblleiaomaaGreatN2
set_option linter.unusedVariables false
set_option linter.unusedSimpArgs false
namespace Go.AM.B1
open Go.AM Go.AM.So
theorem AF:tf=Gb:=rfl
theorem MD:uf=Gb:=rfl
theorem lF:Gf=Gb:=rfl
def FA (p:Int×Int):List PV:=[i64 p.1,i64 p.2]
def Od (l:List (Int×Int)):Array (List PV):=(l.map FA).toArray
def tS (r:List PV):Prop:=∃ p,r=FA p
theorem Dt (r:List PV) (h:tS r):LO 2 r:=by
 obtain⟨p,rfl⟩:=h
 exact⟨rfl,by intro c hc;simp[FA] at hc;rcases hc with rfl | rfl <;> rfl⟩
theorem Mw (l:List (Int×Int)):∀ r∈(Od l).toList,tS r:=by
 intro r hr
 simp[Od] at hr
 obtain⟨a,b,_,rfl⟩:=hr
 exact⟨(a,b),rfl⟩
theorem ql (l:List (Int×Int)):(Od l).size=l.length:=by simp[Od]
def vc (l:List (Int×Int)) (fl:Nat) (nl:Bool):aa:=Xe 2 (Od l) fl nl
theorem Ig (l:List (Int×Int)):(zf (Od l)).length=l.length * 2:=by
 rw[Et fun r hr=>Dt r (Mw l r hr),ql]
theorem Fx {A:List aa} {id n fl bytes:Nat} {nl:Bool} {h:Yd} {l:List (Int×Int)} (hg:A[id]? =some (vc l fl nl)) (hn:n=l.length) (hr:Cb (n+1) bytes) (p:Int×Int):
 Hc A true h 2 true bytes (.own id n) (.pv (.lit 2 [pr p]))=some (.own id (n+1),A.set id (vc (l++[p]) fl false)):=by
 subst hn
 have hl:=Ig l
 have e:zf (Od (l++[p]))=zf (Od l)++[.pv (i64 p.1),.pv (i64 p.2)]:=by
  simp[zf,Od,FA]
 simp only[Hc,if_true,hg,vc,Xe,Zi,Oe,Option.map_some,Option.bind_some,flat,PV.cells,pr,List.append_nil,List.map_cons,List.map_nil,List.length_cons,List.length_nil,e]
 rw[if_pos]
 ·simp
 ·exact⟨trivial,by omega,hr,rfl⟩
theorem yE (H:List aa) (d:Nat) (l:List PV):Va (Ab H d) (l.map .pv)=some l:=by
 induction l with
 |nil=>rfl
 |cons a l ih=>simp only[List.map_cons,Va,He,Option.bind_some,ih]
theorem Hx:∀ (l:List (Int×Int)),chunk 2 true l.length ((l.map FA).flatten)=Td l
 | []=>rfl
 |p::l=>by
  have ih:=Hx l
  simp only[List.length_cons,List.map_cons,List.flatten_cons,chunk,if_true,FA] at ih ⊢
  simp only[List.cons_append,List.nil_append,List.take_succ_cons,List.take_zero,List.drop_succ_cons,List.drop_zero,Td,List.map_cons]
  rw[ih]
theorem mM {A:List aa} {id n fl:Nat} {nl:Bool} {l:List (Int×Int)} (hg:A[id]? =some (vc l fl nl)) (hn:n=l.length) (d:Nat):Ab A (d+1) (.own id n)=some (if nl then .qa else .lit 2 (Td l)):=by
 subst hn
 have hl:=Ig l
 have e:zf (Od l)=((l.map FA).flatten).map .pv:=by simp[zf,Od]
 simp only[Ab,hg,vc,Xe]
 rw[if_pos ⟨by omega,rfl⟩,e,yE]
 cases nl with
 |true=>rfl
 |false=>simp only[Bool.false_eq_true,if_false,Option.map_some,Hx]
theorem Hu (A:List aa) (x y:AV) (p:Int×Int):Pa (A++[.box [x,y]]) 2 (.ptr A.length 0) (.pv (pr p))=some (A++[.box [.pv (i64 p.1),.pv (i64 p.2)]]):=by
 simp only[Pa,AV.cells,PV.cells,pr,List.map_cons,List.map_nil,List.length_cons,List.length_nil,List.all,AV.one,lh,Wk]
 simp[oa]
theorem Fw (A:List aa) (p:Int×Int):na (A++[.box [.pv (i64 p.1),.pv (i64 p.2)]]) true 2 (.ptr A.length 0)=some (.pv (pr p)):=by
 simp[na,ng,Wo,Bc]
theorem Ym (l:List (Int×Int)) (fl:Nat) (nl:Bool) (n:Nat):pa n (vc l fl nl)=some (vc l fl nl):=Ws _ _ _ _ _
abbrev SJ (v:PV) (id n len i:Nat):Tr:=(((Tr.lf.set 11 (.pv (i64 i))).set 10 (.pv (i64 len))).set 9 (.pv v)).set 3 (.own id n)
theorem Fp (A:List aa) {l:List (Int×Int)} {i:Nat} (hi:i < l.length):ma A 2 (.pv (.lit 2 (Td l))) (i:Int)=some (.pv (.rp [i64 l[i].1,i64 l[i].2] 0)):=by
 have hg:=Xn hi
 simp only[ma]
 rw[if_pos (by unfold Ca;simp;omega),Int.toNat_natCast,hg];rfl
theorem gP (A:List aa) (p:Int×Int):na A true 2 (.pv (.rp [i64 p.1,i64 p.2] 0))=some (.pv (pr p)):=by
 simp[na,Gk]
theorem NI (call:Fa) (v:PV) (l:List (Int×Int)) (hv:Ah 2 v (Td l)) (hw:l.length * 16≤140737488355328) (H:List aa) (hH:Kc H):
 Hd call uc [.pv v] H=some (.own H.length l.length,H++[vc l 0 false]):=by
 have ls:=hv.len
 simp only[Td,List.length_map] at ls
 have hid:H.length < H.length+1:=Nat.lt_succ_self _
 have hlen:∀ l',(H++[vc l' 0 false]).length=H.length+1:=fun l'=>by simp
 have hcut:∀ l',Va (pa (H.length+1)) (H++[vc l' 0 false])=some (H++[vc l' 0 false]):=fun l'=>qj fun o ho=>by
  rcases List.mem_append.1 ho with h | h
  ·exact hH _ (by omega) o h
  ·simp at h;subst h;exact Ym _ _ _ _
 have hloop:ke (fun r=>∃ E,r=(.exit 0,⟨E,H++[vc l 0 false]⟩)∧E.get 3= .own H.length l.length)
  (Eb (fa (ga call Tb) (xa (H.length+1) [3,9,10,11])) wa ⟨SJ v H.length 0 l.length 0,H++[vc [] 0 false]⟩):=by
  refine Wa (Te (g:=fa (ga call Tb) (xa (H.length+1) [3,9,10,11]))
   (fun i t=>t=⟨SJ v H.length i l.length i,H++[vc (l.take i) 0 false]⟩)
   l.length (by unfold wa;omega) _ rfl ?_ ?_) (fun r h=>h.2)
  ·rintro i t hi rfl
   have hv:=hv.lit (i:=i) (by simpa using hi)
   subst hv
   have e1:decide ((i:Int) < (l.length:Int))=true:=Za (by omega)
   have t2:=Bb hi (by unfold maxLen;omega)
   have a1:=Fp (H++[vc (l.take i) 0 false]) hi
   have l1:=gP (H++[vc (l.take i) 0 false]) l[i]
   have s1:=Hu (H++[vc (l.take i) 0 false]) (.pv (i64 0)) (.pv (i64 0)) l[i]
   have l2:=Fw (H++[vc (l.take i) 0 false]) l[i]
   have hap:=Fx (A:=H++[vc (l.take i) 0 false]++[.box [.pv (i64 l[i].1),.pv (i64 l[i].2)]]) (id:=H.length) (n:=i) (h:= .own) (bytes:=16) (by rw[List.getElem?_append_left (by simp)];exact lh _ _) (by simp;omega) (by unfold Cb;omega) l[i]
   rw[List.set_append_left _ _ (by simp),Wk,←List.take_succ_eq_append_getElem hi] at hap
   have htk:(H++[vc (l.take (i+1)) 0 false]++[aa.box [.pv (i64 l[i].1),.pv (i64 l[i].2)]]).take (H.length+1)=H++[vc (l.take (i+1)) 0 false]:=by
    rw[List.take_append_of_le_length (by simp),List.take_of_length_le (by simp)]
   have hc:=hcut (l.take (i+1))
   generalize l[i]=p at *
   generalize hQ:LN _ _ i=Q
   simp -implicitDefEqProofs only[SP,WP,oa,sevalprocAttr,Tb,e1,t2,a1,l1,s1,l2,hap,htk,hc,hid,xa,Qa,AV.cut,Sa,SJ]
   subst hQ
   rfl
  ·rintro t rfl
   rw[List.take_length]
   have e1:decide ((l.length:Int) < (l.length:Int))=false:=mb (by omega)
   generalize hQ:(fun r:Ex×St=>r.1.stop=true∧_)=Q
   simp -implicitDefEqProofs only[SX,sevalprocAttr,Tb,e1,SJ]
   subst hQ
   exact⟨rfl,_,rfl,by simp[Tr.ba]⟩
 have h2:(0:Int)≤(l.length:Int):=by omega
 have h3:Cb l.length 16:=by unfold Cb;omega
 have n0:(0:Int).toNat=0:=rfl
 have ho:aa.seq 2 true [] 0 false=vc [] 0 false:=rfl
 apply lz
 simp -implicitDefEqProofs only[SX,sevalprocAttr,uc,Tc,ls,Int.le_refl,eq_true h2,eq_true h3,n0,ho,hlen,hcut,hid,List.take_of_length_le (show (H++[vc [] 0 false]).length≤H.length+1 by simp),xa,Qa,AV.cut,Sa]
 refine Wa hloop ?_
 rintro _ ⟨E,rfl,hE⟩
 simp -implicitDefEqProofs only[SX,sevalprocAttr,hE]
end Go.AM.B1
namespace Go.AM.B1
open Go.AM Go.AM.So
theorem Nk {A:List aa} {id n sz bytes:Nat} {nl ag:Bool} {h:Yd} {es:List PV} (hg:A[id]? =some (.tok sz n nl)) (hn:n=es.length) (hr:Cb (n+1) bytes) (e:PV):
 Hc A false h sz ag bytes (.uq id nl sz es) (.pv (.lit sz [e]))=some (.uq id false sz (es++[e]),A.set id (.tok sz (n+1) false)):=by
 subst hn
 simp only[Hc,Bool.false_eq_true,if_false,hg,Oe,if_true,Option.bind_some,List.length_cons,List.length_nil]
 rw[if_pos ⟨trivial,trivial,trivial,hr⟩]
 simp
abbrev WJ (id n i tk:Nat) (nl:Bool) (es:List PV):Tr:=(((Tr.lf.set 11 (.pv (i64 i))).set 10 (.pv (i64 n))).set 9 (.own id n)).set 3 (.uq tk nl 2 es)
theorem FJ {A:List aa} {id fl:Nat} {nl:Bool} {l:List (Int×Int)} (hg:A[id]? =some (vc l fl nl)) (hf:fl≤l.length * 2) (hA:Kc A):Hp id 2 tS A (Od l) A:=
 Hp.refl (fl:=fl) (nl:=nl) hA (by rw[ql];exact hf) hg (Mw l)
theorem BA {l:List (Int×Int)} {i:Nat} (hi:i < l.length):(Od l)[i]! =FA l[i]:=by
 rw[PS (by rw[ql];exact hi)];simp[Od]
theorem FK (call:Fa) (l:List (Int×Int)) {id fl:Nat} {nl:Bool} (H:List aa) (hH:Kc H) (hg:H[id]? =some (vc l fl nl)) (hf:fl≤l.length * 2) (hw:l.length * 16≤140737488355328):
 Hd call Ac [.own id l.length] H=some (.uq H.length false 2 (Td l),H++[.tok 2 l.length false]):=by
 have hp:=FJ hg hf hH
 have hid:id < H.length:=hp.lt
 have hid1:id < H.length+1:=by omega
 have htk:H.length < H.length+1:=Nat.lt_succ_self _
 have hl:=Ig l
 have hn:l.length=(Od l).size:=(ql l).symm
 have hlen:∀ m b,(H++[aa.tok 2 m b]).length=H.length+1:=fun m b=>by simp
 have hcut:∀ m b,Va (pa (H.length+1)) (H++[aa.tok 2 m b])=some (H++[aa.tok 2 m b]):=fun m b=>qj fun o ho=>by
  rcases List.mem_append.1 ho with h | h
  ·exact hH _ (by omega) o h
  ·simp at h;subst h;rfl
 have hlA:∀ T,Mc (H++T) 0 (.own id l.length)=some l.length:=by
  intro T
  rw[uv,List.getElem?_append_left hid,hg]
  simp only[vc,Xe]
  rw[if_pos];unfold Dg;omega
 have hlA0:Mc H 0 (.own id l.length)=some l.length:=by have:=hlA [];rwa [List.append_nil] at this
 have hloop:ke (fun r=>∃ E,r=(.exit 0,⟨E,H++[.tok 2 l.length false]⟩)∧E.get 3= .uq H.length false 2 (Td l))
  (Eb (fa (ga call Vb) (xa (H.length+1) [3,9,10,11])) wa ⟨WJ id l.length 0 H.length false [],H++[.tok 2 0 false]⟩):=by
  refine Wa (Te (g:=fa (ga call Vb) (xa (H.length+1) [3,9,10,11]))
   (fun i t=>t=⟨WJ id l.length i H.length false (Td (l.take i)),H++[.tok 2 i false]⟩)
   l.length (by unfold wa;omega) _ rfl ?_ ?_) (fun r h=>h.2)
  ·rintro i t hi rfl
   have e1:decide ((i:Int) < (l.length:Int))=true:=Za (by omega)
   have t2:=Bb hi (by unfold maxLen;omega)
   have a1:=xC [.tok 2 i false] hid (hp.mg Dt hn (i:=(i:Int)) rfl (by omega))
   have l1:=gF [.tok 2 i false] hid (hp.load Dt hn (k:=i) (by omega))
   rw[BA hi] at l1
   have l1':na (H++[.tok 2 i false]) true 2 (.ic id (l.length * 2) (i * 2))=some (.pv (pr l[i])):=l1
   have s1:=Hu (H++[.tok 2 i false]) (.pv (i64 0)) (.pv (i64 0)) l[i]
   have l2:=Fw (H++[.tok 2 i false]) l[i]
   have hap:=Nk (A:=H++[.tok 2 i false]++[.box [.pv (i64 l[i].1),.pv (i64 l[i].2)]]) (id:=H.length) (n:=i) (h:= .uq) (ag:=true) (nl:=false) (sz:=2) (bytes:=16) (es:=Td (l.take i)) (by rw[List.getElem?_append_left (by simp)];exact lh _ _) (by simp;omega) (by unfold Cb;omega) (pr l[i])
   have hs:Td (l.take (i+1))=Td (l.take i)++[pr l[i]]:=by rw[List.take_succ_eq_append_getElem hi];simp only[Td,List.map_append,List.map_cons,List.map_nil]
   rw[List.set_append_left _ _ (by simp),Wk,←hs] at hap
   have htk2:(H++[aa.tok 2 (i+1) false]++[aa.box [.pv (i64 l[i].1),.pv (i64 l[i].2)]]).take (H.length+1)=H++[aa.tok 2 (i+1) false]:=by
    rw[List.take_append_of_le_length (by simp),List.take_of_length_le (by simp)]
   have hc:=hcut (i+1) false
   generalize l[i]=p at *
   generalize hes':Td (l.take (i+1))=es' at *
   generalize Td (l.take i)=es at *
   generalize hQ:LN _ _ i=Q
   simp -implicitDefEqProofs only[SP,WP,oa,sevalprocAttr,Vb,e1,t2,a1,l1',s1,l2,hap,htk,htk2,hc,hid1,xa,Qa,AV.cut,Sa,WJ]
   subst hQ
   subst hes'
   rfl
  ·rintro t rfl
   rw[List.take_length]
   have e1:decide ((l.length:Int) < (l.length:Int))=false:=mb (by omega)
   generalize hQ:(fun r:Ex×St=>r.1.stop=true∧_)=Q
   simp -implicitDefEqProofs only[SX,sevalprocAttr,Vb,e1,WJ]
   subst hQ
   exact⟨rfl,_,rfl,by simp[Tr.ba]⟩
 have h2:(0:Int)≤(l.length:Int):=by omega
 have h3:Cb l.length 16:=by unfold Cb;omega
 have n0:(0:Int).toNat=0:=rfl
 apply lz
 simp -implicitDefEqProofs only[SX,sevalprocAttr,Ac,Tc,hlA,hlA0,Int.le_refl,eq_true h2,eq_true h3,n0,hlen,hcut,hid1,htk,List.take_of_length_le (show (H++[aa.tok 2 0 false]).length≤H.length+1 by simp),xa,Qa,AV.cut,Sa]
 refine Wa hloop ?_
 rintro _ ⟨E,rfl,hE⟩
 simp -implicitDefEqProofs only[SX,sevalprocAttr,hE]
def Eh (x:Int) (l:List (Int×Int)):Prop:=∃ p∈l,p.1≤x∧x≤p.2
end Go.AM.B1
namespace Go.AM.B1
open Go.AM Go.AM.So
def Lf:List (Int×Int)→List (Int×Int)→List (Int×Int)
 |out,[]=>out
 |out,r::rest=>match out.getLast? with
  |some q=>if r.1≤q.2+1 then Lf (out.dropLast++[(q.1,if r.2 > q.2 then r.2 else q.2)]) rest else Lf (out++[r]) rest
  |none=>Lf (out++[r]) rest
theorem rC (r:Int×Int) (rest:List (Int×Int)):Lf [] (r::rest)=Lf [r] rest:=rfl
theorem qA {out rest:List (Int×Int)} {q r:Int×Int} (h:r.1≤q.2+1):Lf (out++[q]) (r::rest)=Lf (out++[(q.1,if r.2 > q.2 then r.2 else q.2)]) rest:=by
 rw[Lf,List.getLast?_append];simp[h]
theorem aD {out rest:List (Int×Int)} {q r:Int×Int} (h:¬r.1≤q.2+1):Lf (out++[q]) (r::rest)=Lf (out++[q]++[r]) rest:=by
 rw[Lf,List.getLast?_append];simp[h]
section
variable {A:List aa} {id fl:Nat} {nl:Bool} {out:List (Int×Int)} {q:Int×Int} (hg:A[id]? =some (vc (out++[q]) fl nl)) (hf:fl≤(out.length+1) * 2)
include hg hf
theorem aI:ma A 2 (.own id (out.length+1)) (out.length:Int)=some (.ic id ((out.length+1) * 2) (out.length * 2)):=by
 have hl:=Ig (out++[q])
 rw[List.length_append,List.length_cons,List.length_nil] at hl
 simp only[ma,hg,vc,Xe]
 rw[if_pos (by refine⟨trivial,?_,?_⟩ <;> first | (unfold Ca;omega) | (unfold Dg;omega))]
 simp
omit hf in
theorem MI:place A 1 (.ic id ((out.length+1) * 2) (out.length * 2))=some (.ic id ((out.length+1) * 2) (out.length * 2+1)):=by
 have hl:=Ig (out++[q])
 rw[List.length_append,List.length_cons,List.length_nil] at hl
 simp only[place,hg,vc,Xe,hl,if_true]
omit hf in
theorem LM:na A false 1 (.ic id ((out.length+1) * 2) (out.length * 2+1))=some (.pv (i64 q.2)):=by
 have hl:=Ig (out++[q])
 rw[List.length_append,List.length_cons,List.length_nil] at hl
 simp only[na,hg,vc,Xe,hl,if_true,ng,Bool.false_eq_true,if_false]
 have e:zf (Od (out++[q]))=zf (Od out)++[.pv (i64 q.1),.pv (i64 q.2)]:=by simp[zf,Od,FA]
 have hl2:=Ig out
 rw[e,List.getElem?_append_right (by omega),hl2]
 have:out.length * 2+1 - out.length * 2=1:=by omega
 rw[this];rfl
omit hf in
theorem yH (v:Int):Pa A 1 (.ic id ((out.length+1) * 2) (out.length * 2+1)) (.pv (i64 v))=some (A.set id (vc (out++[(q.1,v)]) ((out.length+1) * 2) nl)):=by
 have hl:=Ig (out++[q])
 rw[List.length_append,List.length_cons,List.length_nil] at hl
 have e:∀ q:Int×Int,zf (Od (out++[q]))=zf (Od out)++[.pv (i64 q.1),.pv (i64 q.2)]:=fun q=>by simp[zf,Od,FA]
 have hl2:=Ig out
 have hs:oa (zf (Od (out++[q]))) (out.length * 2+1) [.pv (i64 v)]=zf (Od (out++[(q.1,v)])):=by
  rw[e,e,oa,oa,List.set_append_right _ _ (by omega),hl2]
  have:out.length * 2+1 - out.length * 2=1:=by omega
  rw[this];rfl
 have hc:(AV.pv (i64 v)).cells=[.pv (i64 v)]:=rfl
 simp only[Pa,hg,vc,Xe,hc]
 rw[if_pos ⟨rfl,rfl⟩,if_pos ⟨hl,by omega⟩,hs]
end
abbrev fy (id0 n i id1 m:Nat):Tr:=(((Tr.lf.set 11 (.pv (i64 i))).set 10 (.pv (i64 n))).set 9 (.own id0 n)).set 3 (.own id1 m)
def FI (l:List (Int×Int)):Prop:=∀ p∈l,-4611686018427387904≤p.2∧p.2≤4611686018427387904
theorem HO {a b:List (Int×Int)} (ha:FI a) (hb:FI b):FI (a++b):=by
 intro p hp
 rcases List.mem_append.1 hp with h | h
 ·exact ha p h
 ·exact hb p h
theorem QM (call:Fa) (l:List (Int×Int)) (hl:FI l) {id0 fl0:Nat} {nl0:Bool} (H:List aa) (hH:Kc H) (hg0:H[id0]? =some (vc l fl0 nl0)) (hf0:fl0≤l.length * 2) (hw:l.length≤1000000):
 ke (fun r=>∃ E fl nl,r=(.exit 0,⟨E,H++[vc (Lf [] l) fl nl]⟩)∧E.get 3= .own H.length (Lf [] l).length∧fl≤(Lf [] l).length * 2)
  (Eb (fa (ga call dg) (xa (H.length+1) [3,9,10,11])) wa ⟨fy id0 l.length 0 H.length 0,H++[vc [] 0 true]⟩):=by
 have hp:=FJ hg0 hf0 hH
 have hid:id0 < H.length:=hp.lt
 have hid1:id0 < H.length+1:=by omega
 have htk:H.length < H.length+1:=Nat.lt_succ_self _
 have hn:l.length=(Od l).size:=(ql l).symm
 have hcut:∀ a b c,Va (pa (H.length+1)) (H++[vc a b c])=some (H++[vc a b c]):=fun a b c=>qj fun o ho=>by
  rcases List.mem_append.1 ho with h | h
  ·exact hH _ (by omega) o h
  ·simp at h;subst h;exact Ym _ _ _ _
 refine Wa (Te (g:=fa (ga call dg) (xa (H.length+1) [3,9,10,11]))
  (fun i t=>∃ out fl nl,t=⟨fy id0 l.length i H.length out.length,H++[vc out fl nl]⟩∧fl≤out.length * 2∧FI out∧out.length≤i∧Lf [] l=Lf out (l.drop i))
  l.length (by unfold wa;omega) _ ⟨[],0,true,rfl,by omega,by intro p hp;simp at hp,by simp,rfl⟩ ?_ ?_) (fun r h=>h.2)
 ·rintro i t hi ⟨out,fl,nl,rfl,hfl,hsa,hle,hs⟩
  have hd:l.drop i=l[i]::l.drop (i+1):=List.drop_eq_getElem_cons hi
  rw[hd] at hs
  have hsp:=hl l[i] (List.getElem_mem hi)
  have e1:decide ((i:Int) < (l.length:Int))=true:=Za (by omega)
  have t2:=Bb hi (by unfold maxLen;omega)
  have a1:=xC [vc out fl nl] hid (hp.mg Dt hn (i:=(i:Int)) rfl (by omega))
  have l1:=gF [vc out fl nl] hid (hp.load Dt hn (k:=i) (by omega))
  rw[BA hi] at l1
  have l1':na (H++[vc out fl nl]) true 2 (.ic id0 (l.length * 2) (i * 2))=some (.pv (pr l[i])):=l1
  have s1:=Hu (H++[vc out fl nl]) (.pv (i64 0)) (.pv (i64 0)) l[i]
  have l2:=Fw (H++[vc out fl nl]) l[i]
  have b0:∀ p:Int×Int,place (H++[vc out fl nl]++[aa.box [.pv (i64 p.1),.pv (i64 p.2)]]) 0 (.ptr (H++[vc out fl nl]).length 0)=some (.ptr (H++[vc out fl nl]).length 0):=fun p=>by simp[place]
  have b1:∀ p:Int×Int,place (H++[vc out fl nl]++[aa.box [.pv (i64 p.1),.pv (i64 p.2)]]) 1 (.ptr (H++[vc out fl nl]).length 0)=some (.ptr (H++[vc out fl nl]).length 1):=fun p=>by simp[place]
  have b2:∀ p:Int×Int,na (H++[vc out fl nl]++[aa.box [.pv (i64 p.1),.pv (i64 p.2)]]) false 1 (.ptr (H++[vc out fl nl]).length 0)=some (.pv (i64 p.1)):=fun p=>by simp[na,ng]
  have b3:∀ p:Int×Int,na (H++[vc out fl nl]++[aa.box [.pv (i64 p.1),.pv (i64 p.2)]]) false 1 (.ptr (H++[vc out fl nl]).length 1)=some (.pv (i64 p.2)):=fun p=>by simp[na,ng]
  have hap:=Fx (A:=H++[vc out fl nl]++[.box [.pv (i64 l[i].1),.pv (i64 l[i].2)]]) (id:=H.length) (n:=out.length) (h:= .own) (bytes:=16) (by rw[List.getElem?_append_left (by simp)];exact lh _ _) rfl (by unfold Cb;omega) l[i]
  rw[List.set_append_left _ _ (by simp),Wk] at hap
  have htk2:∀ (o o2:aa),(H++[o]++[o2]).take (H.length+1)=H++[o]:=fun o o2=>by
   rw[List.take_append_of_le_length (by simp),List.take_of_length_le (by simp)]
  have hlen:Mc (H++[vc out fl nl]++[.box [.pv (i64 l[i].1),.pv (i64 l[i].2)]]) 0 (.own H.length out.length)=some out.length:=by
   rw[uv,List.getElem?_append_left (by simp),lh]
   have:=Ig out
   simp only[vc,Xe]
   rw[if_pos];unfold Dg;omega
  rcases List.eq_nil_or_concat out with rfl | ⟨out,q,rfl⟩
  ·have hz:decide (((0:Nat):Int) > 0)=false:=by decide
   rw[rC] at hs
   rw[List.length_nil] at hap hlen
   rw[Nat.zero_add,List.nil_append] at hap
   generalize l[i]=p at *
   generalize hQ:LN _ _ i=Q
   simp -implicitDefEqProofs only[SP,WP,oa,sevalprocAttr,dg,e1,t2,a1,l1',s1,l2,hlen,hz,hap,htk2,hcut,hid1,htk,xa,Qa,AV.cut,Sa,fy]
   subst hQ
   exact⟨[p],fl,false,rfl,by simp at hfl ⊢;omega,by intro x hx;simp at hx;subst hx;exact hsp,by simp,hs⟩
  ·rw[List.concat_eq_append] at *
   have hql:=hsa q (by simp)
   have hol:(out++[q]).length=out.length+1:=by simp
   have hg1:(H++[vc (out++[q]) fl nl]++[aa.box [.pv (i64 l[i].1),.pv (i64 l[i].2)]])[H.length]? =some (vc (out++[q]) fl nl):=by rw[List.getElem?_append_left (by simp)];exact lh _ _
   have c1:=aI hg1 (by rw[hol] at hfl;exact hfl)
   have c2:=MI hg1
   have c3:=LM hg1
   have c4:=yH hg1 (if l[i].2 > q.2 then l[i].2 else q.2)
   rw[List.set_append_left _ _ (by simp),Wk] at c4
   have t3:IntKind.i64.wrap (((out.length+1:Nat):Int) - 1)=(out.length:Int):=by rw[Da (by omega)];omega
   have t4:IntKind.i64.wrap (q.2+1)=q.2+1:=Da (by omega)
   have hz:decide (((out.length+1:Nat):Int) > 0)=true:=Za (by omega)
   rw[hol] at hlen hap hfl hle
   by_cases hj:l[i].1≤q.2+1
   ·have e2:decide (l[i].1≤q.2+1)=true:=Za hj
    rw[qA hj] at hs
    generalize l[i]=p at *
    generalize hmx:(if p.2 > q.2 then p.2 else q.2)=mx at *
    generalize hQ:LN _ _ i=Q
    simp -implicitDefEqProofs only[SP,WP,oa,sevalprocAttr,dg,e1,t2,a1,l1',s1,l2,hol,hlen,hz,b0,b1,b2,b3,c1,c2,c3,c4,t3,t4,e2,Un,zd,hmx,htk2,hcut,hid1,htk,xa,Qa,AV.cut,Sa,fy]
    subst hQ
    refine⟨out++[(q.1,mx)],(out.length+1) * 2,nl,by simp[fy,hol],by simp,?_,by simp;omega,hs⟩
    intro x hx
    rcases List.mem_append.1 hx with h | h
    ·exact hsa x (by simp[h])
    ·simp at h;subst h
     rw[← hmx];split <;> simp only <;> omega
   ·have e2:decide (l[i].1≤q.2+1)=false:=mb hj
    rw[aD hj] at hs
    generalize l[i]=p at *
    generalize hQ:LN _ _ i=Q
    simp -implicitDefEqProofs only[SP,WP,oa,sevalprocAttr,dg,e1,t2,a1,l1',s1,l2,hol,hlen,hz,b0,b1,b2,b3,c1,c2,c3,t3,t4,e2,hap,htk2,hcut,hid1,htk,xa,Qa,AV.cut,Sa,fy]
    subst hQ
    refine⟨out++[q]++[p],fl,false,by simp[fy],by simp;omega,?_,by simp;omega,hs⟩
    exact HO hsa (by intro x hx;simp at hx;subst hx;exact hsp)
 ·rintro t ⟨out,fl,nl,rfl,hfl,hsa,hle,hs⟩
  rw[List.drop_length,Lf] at hs
  have e1:decide ((l.length:Int) < (l.length:Int))=false:=mb (by omega)
  generalize hQ:(fun r:Ex×St=>r.1.stop=true∧_)=Q
  simp -implicitDefEqProofs only[SX,sevalprocAttr,dg,e1,fy]
  subst hQ
  rw[hs]
  exact⟨rfl,_,fl,nl,rfl,by simp[Tr.ba],hfl⟩
end Go.AM.B1
namespace Go.AM.B1
open Go.AM Go.AM.So
def Qu (last:Int) (a:List (Int×Int)):Int:=(a.getLast?.map (·.2)).getD last
theorem uF (last:Int) (p:Int×Int) (a:List (Int×Int)):Qu last (p::a)=Qu p.2 a:=by
 cases a with
 |nil=>rfl
 |cons q a=>simp[Qu,List.getLast?_cons]
theorem HE (last:Int) (a:List (Int×Int)) (q:Int×Int):Qu last (a++[q])=q.2:=by simp[Qu]
theorem Uq (top:Int):∀ (a b:List (Int×Int)) (last:Int),Ka top last (a++b)=(Ka top last a&&Ka top (Qu last a) b)
 | [],b,last=>by simp[Ka,Qu]
 |p::a,b,last=>by
  rw[List.cons_append,Ka,Ka,Uq top a b p.2,uF,Bool.and_assoc]
theorem sn {top last:Int} {p:Int×Int}:Ka top last [p]=true↔0≤p.1∧p.1≤p.2∧p.2≤top∧last < p.1 - 1:=by
 simp only[Ka,Bool.and_true,Bool.not_eq_true',Bool.or_eq_false_iff,decide_eq_false_iff_not]
 constructor <;> intro h <;> refine⟨?_,?_⟩ <;> omega
theorem Lp (x:Int) (a b:List (Int×Int)):Eh x (a++b)↔Eh x a∨Eh x b:=by
 unfold Eh
 simp only[List.mem_append]
 constructor
 ·rintro⟨p,h | h,hp⟩
  ·exact .inl ⟨p,h,hp⟩
  ·exact .inr ⟨p,h,hp⟩
 ·rintro (⟨p,h,hp⟩ | ⟨p,h,hp⟩)
  ·exact⟨p,.inl h,hp⟩
  ·exact⟨p,.inr h,hp⟩
theorem zl (x:Int) (p:Int×Int):Eh x [p]↔p.1≤x∧x≤p.2:=by
 unfold Eh;simp
theorem Tj (x:Int):¬Eh x []:=by unfold Eh;simp
theorem Cj (x:Int) (p:Int×Int) (l:List (Int×Int)):Eh x (p::l)↔(p.1≤x∧x≤p.2)∨Eh x l:=by
 unfold Eh;simp
theorem Zw {top:Int}:∀ (rest out:List (Int×Int)) (q:Int×Int),Ka top (-2) (out++[q])=true→(∀ p∈rest,0≤p.1∧p.1≤p.2∧p.2≤top∧q.1≤p.1)→rest.Pairwise (fun p q=>p.1≤q.1)→
 Ka top (-2) (Lf (out++[q]) rest)=true∧(∀ x,Eh x (Lf (out++[q]) rest)↔Eh x (out++[q])∨Eh x rest)∧(Lf (out++[q]) rest).length≤out.length+1+rest.length
 | [],out,q,hv,_,_=>by
   rw[Lf]
   exact⟨hv,fun x=>by simp[Tj],by simp⟩
 |r::rest,out,q,hv,hr,hs=>by
  have h1:=hr r (by simp)
  rw[List.pairwise_cons] at hs
  have hv':=hv
  rw[Uq,Bool.and_eq_true,sn] at hv'
  by_cases hj:r.1≤q.2+1
  ·rw[qA hj]
   have ih:=Zw rest out (q.1,if r.2 > q.2 then r.2 else q.2) (by
    rw[Uq,Bool.and_eq_true,sn]
    refine⟨hv'.1,hv'.2.1,?_,?_,hv'.2.2.2.2⟩ <;> simp only <;> split <;> omega) (fun p hp=>by
     have:=hr p (by simp[hp])
     exact⟨this.1,this.2.1,this.2.2.1,this.2.2.2⟩) hs.2
   refine⟨ih.1,fun x=> ?_,by have:=ih.2.2;simp only[List.length_cons];omega⟩
   rw[ih.2.1,Lp,Lp,zl,zl,Cj]
   have e:(q.1≤x∧x≤(if r.2 > q.2 then r.2 else q.2))↔(q.1≤x∧x≤q.2)∨(r.1≤x∧x≤r.2):=by
    split <;> constructor <;> intro h <;> omega
   simp only[e]
   constructor
   ·rintro ((h | h | h) | h)
    ·exact .inl (.inl h)
    ·exact .inl (.inr h)
    ·exact .inr (.inl h)
    ·exact .inr (.inr h)
   ·rintro ((h | h) | h | h)
    ·exact .inl (.inl h)
    ·exact .inl (.inr (.inl h))
    ·exact .inl (.inr (.inr h))
    ·exact .inr h
  ·rw[aD hj]
   have ih:=Zw rest (out++[q]) r (by
    rw[Uq,Bool.and_eq_true,sn,HE]
    exact⟨hv,h1.1,h1.2.1,h1.2.2.1,by omega⟩) (fun p hp=>by
     have h2:=hr p (by simp[hp])
     exact⟨h2.1,h2.2.1,h2.2.2.1,hs.1 p hp⟩) hs.2
   refine⟨ih.1,fun x=> ?_,by have:=ih.2.2;simp only[List.length_cons,List.length_append,List.length_nil] at this ⊢;omega⟩
   rw[ih.2.1,Lp,zl,Cj]
   constructor
   ·rintro ((h | h) | h)
    ·exact .inl h
    ·exact .inr (.inl h)
    ·exact .inr (.inr h)
   ·rintro (h | h | h)
    ·exact .inl (.inl h)
    ·exact .inl (.inr h)
    ·exact .inr h
theorem TM {top:Int} (l:List (Int×Int)) (hr:∀ p∈l,0≤p.1∧p.1≤p.2∧p.2≤top) (hs:l.Pairwise (fun p q=>p.1≤q.1)):
 Ka top (-2) (Lf [] l)=true∧(∀ x,Eh x (Lf [] l)↔Eh x l)∧(Lf [] l).length≤l.length:=by
 cases l with
 |nil=>exact⟨rfl,fun x=>Iff.rfl,Nat.le_refl _⟩
 |cons r rest=>
  rw[rC]
  have h1:=hr r (by simp)
  rw[List.pairwise_cons] at hs
  have:=Zw rest [] r (by rw[List.nil_append,sn];exact⟨h1.1,h1.2.1,h1.2.2,by omega⟩) (fun p hp=>by
   have h2:=hr p (by simp[hp])
   exact⟨h2.1,h2.2.1,h2.2.2,hs.1 p hp⟩) hs.2
  rw[List.nil_append] at this
  refine⟨this.1,fun x=> ?_,by have:=this.2.2;simp at this ⊢;omega⟩
  rw[this.2.1,zl,Cj]
theorem en {top:Int}:∀ {l:List (Int×Int)} {last:Int},Ka top last l=true→∀ p∈l,0≤p.1∧p.1≤p.2∧p.2≤top
 |q::l,last,h,p,hp=>by
  obtain⟨h1,h2,h3,h4,h5⟩:=Zc h
  rcases List.mem_cons.1 hp with rfl | hp
  ·exact⟨by omega,by omega,by omega⟩
  ·exact en h5 p hp
theorem Yu:∀ (l:List (Int×Int)),zf (Od l)=ae (l.flatMap fun p=>[p.1,p.2])
 | []=>rfl
 |p::l=>by
  have h:=Yu l
  simp only[zf,Od,ae] at h ⊢
  simp[FA,h]
theorem Nz:∀ (l:List (Int×Int)),Df 2 l.length (l.flatMap fun p=>[p.1,p.2])=l.map fun p=>[p.1,p.2]
 | []=>rfl
 |p::l=>by
  rw[List.length_cons,Df,List.flatMap_cons,List.map_cons,←Nz l];rfl
theorem GK {l:List (Int×Int)} (hw:l.length < 50) {H:List aa} {id fl:Nat} {nl:Bool} (hg:H[id]? =some (vc l fl nl)):
 ∃ l',l'.Perm l∧l'.Pairwise (fun p q=>p.1≤q.1)∧Iv 2 0 23 [.own id l.length,.mi 23 []] H=some (.pv (.bc []),H.set id (vc l' (l.length * 2) nl)):=by
 obtain⟨s1,s2,s3⟩:=Vu 2 0 (l.map fun p=>[p.1,p.2]).toArray
 have hso:∀ F,Jz (zf (Od l))=some F→Df 2 l.length F=l.map fun p=>[p.1,p.2]:=by
  intro F hF
  rw[Yu,iq] at hF
  injection hF with hF
  rw[← hF,Nz]
 generalize hE:Kl 2 0 (l.map fun p=>[p.1,p.2]).toArray=E at *
 have hEl:∃ l':List (Int×Int),E.toList=l'.map fun p=>[p.1,p.2]:=by
  have key:∀ (L:List (List Int)),(∀ r∈L,∃ p:Int×Int,r=[p.1,p.2])→∃ l':List (Int×Int),L=l'.map fun p=>[p.1,p.2]:=by
   intro L
   induction L with
   |nil=>intro _;exact⟨[],rfl⟩
   |cons r L ih=>
    intro h
    obtain⟨p,rfl⟩:=h r (by simp)
    obtain⟨l',rfl⟩:=ih fun x hx=>h x (by simp[hx])
    exact⟨p::l',rfl⟩
  refine key _ fun r hr=> ?_
  have:=s2.mem_iff.1 hr
  simp only[List.mem_map] at this
  obtain⟨p,_,rfl⟩:=this
  exact⟨p,rfl⟩
 obtain⟨l',hl'⟩:=hEl
 have hs:E.size=l.length:=by rw[s1];simp
 have hll:l'.length=l.length:=by rw[← hs,←Array.length_toList,hl',List.length_map]
 refine⟨l',?_,?_,?_⟩
 ·rw[hl'] at s2
  have:=s2.map fun r=>(r.getD 0 0,r.getD 1 0)
  simpa[List.map_map,Function.comp_def] using this
 ·rw[List.pairwise_iff_getElem]
  intro i j hi hj hij
  have h:=s3 i j hij (by simp;omega)
  have hg:∀ q (hq:q < l'.length),Kr 2 0 E[q]! =l'[q].1:=by
   intro q hq
   have h1:q < E.size:=by omega
   have:E[q]=[l'[q].1,l'[q].2]:=by
    have h2:E.toList[q]? =some [l'[q].1,l'[q].2]:=by rw[hl',List.getElem?_map,List.getElem?_eq_getElem hq];rfl
    rw[Array.getElem?_toList,Array.getElem?_eq_getElem h1] at h2
    exact Option.some.inj h2
   rw[getElem!_pos E q h1,this];rfl
  rw[hg i hi,hg j hj] at h
  omega
 ·have hfl:=Ig l
  unfold Iv
  simp only[hg,vc,Xe]
  rw[if_pos ⟨trivial,trivial,by rw[hfl],by omega⟩]
  have hF:=Yu l
  have hI:=iq (l.flatMap fun p=>[p.1,p.2])
  rw[← hF] at hI
  rw[hI,Option.map_some,hso _ hI,hE,hl',hfl]
  have e:ae (List.map (fun p:Int×Int=>[p.1,p.2]) l').flatten=zf (Od l'):=by rw[Yu,List.flatMap_def]
  rw[e]
theorem NL (d:Nat) (args:List AV) (H:List aa):Ef Th db (d+1) 22 args H=Iv 2 0 23 args H:=rfl
theorem ZO (l:List (Int×Int)) (hl:FI l) {id0 fl0:Nat} {nl0:Bool} (H:List aa) (hH:Kc H) (hg0:H[id0]? =some (vc l fl0 nl0)) (hf0:fl0≤l.length * 2) (hw:l.length < 50):
 ke (fun r=>∃ l' fl nl,l'.Perm l∧l'.Pairwise (fun p q=>p.1≤q.1)∧r.1= .own (r.2.length - 1) (Lf [] l').length∧Kc r.2∧r.2[r.2.length - 1]? =some (vc (Lf [] l') fl nl)∧fl≤(Lf [] l').length * 2)
  (Hd (Ef Th db 7) Fl [.own id0 l.length] H):=by
 obtain⟨l',hpl,hps,hst⟩:=GK hw hg0
 have hid0:=(List.getElem?_eq_some_iff.1 hg0).1
 have hs2:l'.length=l.length:=hpl.length_eq
 have hg:(H.set id0 (vc l' (l.length * 2) nl0))[id0]? =some (vc l' (l.length * 2) nl0):=List.getElem?_set_self hid0
 have hgd:Kc (H.set id0 (vc l' (l.length * 2) nl0)):=by
  intro n hn o ho
  rcases List.mem_or_eq_of_mem_set ho with h | h
  ·exact hH n (by simpa using hn) o h
  ·subst h;exact Ym _ _ _ _
 have hfl:l.length * 2≤l'.length * 2:=by omega
 simp -implicitDefEqProofs only[SX,sevalprocAttr,Fl,NL,hst]
 generalize H.set id0 (vc l' (l.length * 2) nl0)=H2 at *
 have hl':FI l':=fun p hpp=>hl p (hpl.mem_iff.1 hpp)
 have hlp:=QM (Ef Th db 7) l' hl' H2 hgd hg hfl (by omega)
 rw[hs2] at hlp
 have hlen:Mc (H2++[vc [] 0 true]) 0 (.own id0 l.length)=some l.length:=by
  have hid:id0 < H2.length:=(List.getElem?_eq_some_iff.1 hg).1
  have:=Ig l'
  rw[uv,List.getElem?_append_left hid,hg]
  simp only[vc,Xe]
  unfold zf at this ⊢
  rw[if_pos];unfold Dg;omega
 have hg2:H2.length < H2.length+1:=Nat.lt_succ_self _
 have hid1:id0 < H2.length+1:=by have:=(List.getElem?_eq_some_iff.1 hg).1;omega
 have hgood:Kc (H2++[vc [] 0 true]):=by
  intro n hn o ho
  rcases List.mem_append.1 ho with h | h
  ·exact hgd n (by simp at hn;omega) o h
  ·simp at h;subst h;exact Ym _ _ _ _
 have hcut:=Kc.cut hgood
 have hlen1:(H2++[vc [] 0 true]).length=H2.length+1:=by simp
 rw[hlen1] at hcut
 have hz:(0 < 2)=True:=by simp
 have ho:aa.seq 2 true [] 0 true=vc [] 0 true:=rfl
 simp -implicitDefEqProofs only[SX,sevalprocAttr,Tc,ff,hz,ho,hlen,hlen1,hcut,hg2,hid1,List.take_of_length_le (show (H2++[vc [] 0 true]).length≤H2.length+1 by simp),xa,Qa,AV.cut,Sa]
 refine Wa hlp ?_
 rintro _ ⟨E,fl2,nl2,rfl,hE,hfl2⟩
 simp -implicitDefEqProofs only[SX,sevalprocAttr,hE]
 refine⟨l',fl2,nl2,hpl,hps,by simp,?_,by simp,hfl2⟩
 intro n hn o ho
 rcases List.mem_append.1 ho with h | h
 ·exact hgd n (by simp at hn;omega) o h
 ·simp at h;subst h;exact Ym _ _ _ _
end Go.AM.B1
namespace Go.AM.B1
open Go.AM Go.AM.So
abbrev Mu:Int:=1073741823
theorem AK {A:List aa} {id1 id2 n1 n2 f1 f2 bytes:Nat} {k1 k2:Bool} {h:Yd} {a b:List (Int×Int)} (h1:A[id1]? =some (vc a f1 k1)) (h2:A[id2]? =some (vc b f2 k2)) (hn1:n1=a.length) (hn2:n2=b.length) (hr:Cb (n1+n2) bytes):
 ∃ k,Hc A true h 2 true bytes (.own id1 n1) (.own id2 n2)=some (.own id1 (n1+n2),A.set id1 (vc (a++b) f1 k)):=by
 subst hn1 hn2
 have la:=Ig a
 have lb:=Ig b
 have e:zf (Od (a++b))=zf (Od a)++zf (Od b):=by simp[zf,Od]
 have hone:(zf (Od b)).all AV.one=true:=by
  rw[List.all_eq_true]
  intro v hv
  obtain⟨c,hc,rfl⟩:=List.mem_map.1 hv
  rw[List.mem_flatten] at hc
  obtain⟨r,hr,hc⟩:=hc
  exact (Dt r (Mw b r hr)).2 c hc
 refine⟨k1&&(b.length==0),?_⟩
 simp only[Hc,if_true,h1,vc,Xe,Zi,h2,e]
 rw[if_pos ⟨trivial,by omega⟩]
 simp only[Option.bind_some]
 rw[if_pos ⟨trivial,by omega,hr,hone⟩]
theorem om (v:PV) (l:List (Int×Int)) (hv:Ah 2 v (Td l)) (hw:l.length * 16≤140737488355328) (hval:Ka Mu (-2) l=true) (H:List aa) (hH:Kc H):
 Hd (Ef Th db 7) yg [.pv v] H=some (.own H.length l.length,H++[vc l 0 false]):=by
 have h1:=NI (Ef Th db 6) v l hv hw H hH
 have h2:=Po (.lit 2 (Td l)) l (.inr rfl) (by unfold maxLen;omega) Mu (by decide)
 rw[hval] at h2
 have h0:∀ args H,Ef Th db 7 0 args H=Hd (Ef Th db 6) uc args H:=fun _ _=>rfl
 have h3:=mM (A:=H++[vc l 0 false]) (id:=H.length) (n:=l.length) (lh _ _) rfl 5
 rw[if_neg (by simp)] at h3
 simp -implicitDefEqProofs only[SX,sevalprocAttr,yg,h0,h1,h2,h3]
theorem GH {H:List aa} (hH:Kc H) {o:aa} (ho:∀ n,pa n o=some o):Kc (H++[o]):=by
 intro n hn x hx
 rcases List.mem_append.1 hx with h | h
 ·exact hH n (by simp at hn;omega) x h
 ·simp at h;subst h;exact ho n
theorem GL (A B:PV) (a b:List (Int×Int)) (hA:Ah 2 A (Td a)) (hB:Ah 2 B (Td b)) (hva:Ka Mu (-2) a=true) (hvb:Ka Mu (-2) b=true) (hl:a.length+b.length < 50):
 ∃ u,rj [A,B]=some (.lit 2 (Td u))∧Ka Mu (-2) u=true∧(∀ x,Eh x u↔Eh x a∨Eh x b)∧u.length≤a.length+b.length:=by
 have h1:=om A a hA (by omega) hva [] (by intro n _ o ho;simp at ho)
 have hg1:Kc ([]++[vc a 0 false]):=GH (by intro n _ o ho;simp at ho) (Ym _ _ _)
 have h2:=om B b hB (by omega) hvb ([]++[vc a 0 false]) hg1
 obtain⟨k,h3⟩:=AK (A:=[vc a 0 false,vc b 0 false]) (id1:=0) (id2:=1) (n1:=a.length) (n2:=b.length) (bytes:=16) (h:= .own) rfl rfl rfl rfl (by unfold Cb;omega)
 have hg3:Kc [vc (a++b) 0 k,vc b 0 false]:=by
  intro n _ o ho
  simp at ho
  rcases ho with rfl | rfl <;> exact Ym _ _ _ _
 have ra:=en hva
 have rb:=en hvb
 have rab:∀ p∈a++b,0≤p.1∧p.1≤p.2∧p.2≤Mu:=fun p hp=>by
  rcases List.mem_append.1 hp with h | h
  ·exact ra p h
  ·exact rb p h
 have h4:=ZO (a++b) (fun p hp=>by have:=rab p hp;unfold Mu at this;omega) (id0:=0) [vc (a++b) 0 k,vc b 0 false] hg3 rfl (by omega) (by simp;omega)
 obtain⟨⟨v,H4⟩,e4,l',fl,nl,hpl,hps,hv,hg4,hget,hfl⟩:=vd h4
 dsimp only at hv hg4 hget
 subst hv
 have law:=TM (top:=Mu) l' (fun p hp=>rab p (hpl.mem_iff.1 hp)) hps
 have hll:(Lf [] l').length≤a.length+b.length:=by have:=hpl.length_eq;simp at this;omega
 have h5:=FK (Ef Th db 6) (Lf [] l') H4 hg4 hget hfl (by omega)
 have hmem:∀ x,Eh x (Lf [] l')↔Eh x a∨Eh x b:=by
  intro x
  rw[law.2.1,←Lp]
  unfold Eh
  constructor
  ·rintro⟨p,h,hx⟩;exact⟨p,hpl.mem_iff.1 h,hx⟩
  ·rintro⟨p,h,hx⟩;exact⟨p,hpl.mem_iff.2 h,hx⟩
 refine⟨Lf [] l',?_,law.1,hmem,hll⟩
 generalize Lf [] l'=u at *
 simp only[List.nil_append,List.length_nil,List.cons_append,List.length_cons,Nat.zero_add] at h1 h2 h3
 rw[List.set_cons_zero] at h3
 have c1:∀ args H,Ef Th db 8 1 args H=Hd (Ef Th db 7) yg args H:=fun _ _=>rfl
 have c24:∀ args H,Ef Th db 8 24 args H=Hd (Ef Th db 7) Fl args H:=fun _ _=>rfl
 have c3:∀ args H,Ef Th db 8 3 args H=Hd (Ef Th db 7) Zh args H:=fun _ _=>rfl
 have c2:∀ args H,Ef Th db 7 2 args H=Hd (Ef Th db 6) Ac args H:=fun _ _=>rfl
 have hab:(a++b).length=a.length+b.length:=by simp
 rw[hab] at e4
 simp -implicitDefEqProofs only[rj,eG,SP,WP,oa,sevalprocAttr,gm,c1,h1,h2,h3,c24,e4,c3,Zh,c2,h5]
theorem mr (v:PV) (l:List (Int×Int)) (hv:Ah 2 v (Td l)) (hw:l.length * 16≤140737488355328) (hval:Ka Mu (-2) l=true):ij [v]=some (.lit 2 (Td l)):=by
 have h1:=xj v l hv hw
 rw[← AF] at h1
 have h2:=Po (.lit 2 (Td l)) l (.inr rfl) (by unfold maxLen;omega) Mu (by decide)
 rw[hval] at h2
 simp -implicitDefEqProofs only[ij,SP,SA,SQ,sevalprocAttr,Jo,He,Rb,h1,h2]
def te:Nat→List (Int×Int)→List (Int×Int)→List (Int×Int)
 |0,_,_=>[]
 |n+1,a,b=>match a,b with
  |p::a',q::b'=>(if (if q.1 > p.1 then q.1 else p.1)≤(if q.2 < p.2 then q.2 else p.2) then [((if q.1 > p.1 then q.1 else p.1),(if q.2 < p.2 then q.2 else p.2))] else [])++(if p.2 < q.2 then te n a' (q::b') else te n (p::a') b')
  |_,_=>[]
abbrev js (va vb:PV) (tk:Nat) (nl:Bool) (es:List PV):Tr:=((Tr.lf.set 5 (.uq tk nl 2 es)).set 1 (.pv vb)).set 0 (.pv va)
theorem Ah.HR {v:PV} {p:PV} {es:List PV} (h:Ah 2 v (p::es)):∀ H,Ad H 2 (.pv v) (some 1) none=some (.pv (.lit 2 es)):=by
 intro H
 rcases h with⟨_,h⟩ | rfl
 ·cases h
 ·simp[Ad]
  omega
theorem KF (A B:PV) (a b:List (Int×Int)) (hA:Ah 2 A (Td a)) (hB:Ah 2 B (Td b)) (hw:(a.length+b.length) * 16≤140737488355328):
 ∃ u,Aj [A,B]=some u∧Ah 2 u (Td (te (a.length+b.length) a b)):=by
 have hloop:ke (fun r=>∃ E H nl,r=(.exit 0,⟨E,H⟩)∧E.get 5= .uq 0 nl 2 (Td (te (a.length+b.length) a b))∧(nl=true→te (a.length+b.length) a b=[]))
  (Eb (fa (ga (za (fun _=>none) 8) Be) (xa 1 [0,1,5])) wa ⟨js A B 0 true [],[.tok 2 0 true]⟩):=by
  refine Wa (aw (g:=fa (ga (za (fun _=>none) 8) Be) (xa 1 [0,1,5]))
   (fun m t=>∃ va vb a' b' nl out,m=a'.length+b'.length∧Ah 2 va (Td a')∧Ah 2 vb (Td b')∧t=⟨js va vb 0 nl (Td out),[.tok 2 out.length nl]⟩∧out.length+m≤a.length+b.length∧(nl=true→out=[])∧te (a.length+b.length) a b=out++te m a' b')
   wa (a.length+b.length) _ (by unfold wa;omega) ⟨A,B,a,b,true,[],rfl,hA,hB,rfl,by simp,fun _=>rfl,rfl⟩ ?_) (fun r h=>h.2)
  rintro m t ⟨va,vb,a',b',nl,out,rfl,ha,hb,rfl,hlen,hnl,hs⟩
  have la:=ha.len
  have lb:=hb.len
  simp only[Td,List.length_map] at la lb
  cases a' with
  |nil=>
   have hs':te (a.length+b.length) a b=out:=by
    rw[hs];cases b' <;> simp[te]
   have z1:decide (((([]:List (Int×Int)).length:Nat):Int) > 0)=false:=by decide
   generalize hQ:LQ _ _ _=Q
   simp -implicitDefEqProofs only[SX,sevalprocAttr,Be,la,z1,js]
   subst hQ
   rw[hs']
   exact⟨_,_,nl,rfl,by simp[Tr.ba],hnl⟩
  |cons p a'=>
   have z1:decide ((((p::a').length:Nat):Int) > 0)=true:=Za (by simp)
   cases b' with
   |nil=>
    have hs':te (a.length+b.length) a b=out:=by
     rw[hs];simp[te]
    have z2:decide (((([]:List (Int×Int)).length:Nat):Int) > 0)=false:=by decide
    generalize hQ:LQ _ _ _=Q
    have la':∀ H,Mc H 0 (.pv va)=some (a'.length+1):=la
    have z1':decide ((((a'.length+1):Nat):Int) > 0)=true:=z1
    have lb':∀ H,Mc H 0 (.pv vb)=some 0:=lb
    have z2':decide (((0:Nat):Int) > 0)=false:=z2
    simp -implicitDefEqProofs only[SX,sevalprocAttr,Be,la',lb',z1',z2',js]
    subst hQ
    rw[hs']
    exact⟨_,_,nl,rfl,by simp[Tr.ba],hnl⟩
   |cons q b'=>
    have la':∀ H,Mc H 0 (.pv va)=some (a'.length+1):=la
    have z1':decide ((((a'.length+1):Nat):Int) > 0)=true:=z1
    have lb':∀ H,Mc H 0 (.pv vb)=some (b'.length+1):=lb
    have z2':decide ((((b'.length+1):Nat):Int) > 0)=true:=Za (by omega)
    have hva:va= .lit 2 (Td (p::a')):=ha.lit (i:=0) (by simp)
    have hvb:vb= .lit 2 (Td (q::b')):=hb.lit (i:=0) (by simp)
    have sa:=Ah.HR ha
    have sb:=Ah.HR hb
    have i1:∀ H,ma H 2 (.pv va) 0=some (.pv (.rp [i64 p.1,i64 p.2] 0)):=fun H=>by
     rw[hva];exact Fp H (i:=0) (l:=p::a') (by simp)
    have i2:∀ H,ma H 2 (.pv vb) 0=some (.pv (.rp [i64 q.1,i64 q.2] 0)):=fun H=>by
     rw[hvb];exact Fp H (i:=0) (l:=q::b') (by simp)
    have hap:=Nk (A:=[.tok 2 out.length nl]) (id:=0) (n:=out.length) (h:= .uq) (ag:=true) (nl:=nl) (sz:=2) (bytes:=16) (es:=Td out) rfl (by simp) (by unfold Cb;simp only[List.length_cons] at hlen;omega) (pr ((if q.1 > p.1 then q.1 else p.1),(if q.2 < p.2 then q.2 else p.2)))
    rw[List.set_cons_zero] at hap
    have hm:∀ n,te (n+1) (p::a') (q::b')=(if (if q.1 > p.1 then q.1 else p.1)≤(if q.2 < p.2 then q.2 else p.2) then [((if q.1 > p.1 then q.1 else p.1),(if q.2 < p.2 then q.2 else p.2))] else [])++(if p.2 < q.2 then te n a' (q::b') else te n (p::a') b'):=fun n=>rfl
    have hmn:(p::a').length+(q::b').length=(a'.length+b'.length+1)+1:=by simp;omega
    have l0:∀ H (x y:PV),na H false 1 (.pv (.rp [x,y] 0))=some (.pv x):=fun H x y=>rfl
    have l1:∀ H (x y:PV),na H false 1 (.pv (.rp [x,y] 1))=some (.pv y):=fun H x y=>rfl
    have p0:∀ H (x y:PV),place H 0 (.pv (.rp [x,y] 0))=some (.pv (.rp [x,y] 0)):=fun H x y=>rfl
    have p1:∀ H (x y:PV),place H 1 (.pv (.rp [x,y] 0))=some (.pv (.rp [x,y] 1)):=fun H x y=>rfl
    rw[hmn] at hlen
    rw[hmn,hm] at hs
    generalize hlo:(if q.1 > p.1 then q.1 else p.1)=lo at *
    generalize hhi:(if q.2 < p.2 then q.2 else p.2)=hi at *
    clear hva hvb
    have hprs:Td (out++[(lo,hi)])=Td out++[pr (lo,hi)]:=by simp[Td]
    generalize hQ:LQ _ _ _=Q
    by_cases c1:lo≤hi
    ·have d1:=Za c1
     rw[if_pos c1] at hs
     by_cases c2:p.2 < q.2
     ·have d2:=Za c2
      rw[if_pos c2] at hs
      simp -implicitDefEqProofs only[SP,WP,oa,sevalprocAttr,Be,la',lb',z1',z2',i1,i2,l0,l1,p0,p1,Un,zd,hlo,hhi,hap,d1,d2,sa,sb,xa,Qa,AV.cut,pa,Sa,js]
      subst hQ
      exact⟨a'.length+b'.length+1,by rw[hmn];omega,_,vb,a',q::b',false,out++[(lo,hi)],by simp;omega,.inr rfl,hb,by rw[hprs];simp[js],by simp;omega,by simp,by rw[hs,List.append_assoc]⟩
     ·have d2:=mb c2
      rw[if_neg c2] at hs
      simp -implicitDefEqProofs only[SP,WP,oa,sevalprocAttr,Be,la',lb',z1',z2',i1,i2,l0,l1,p0,p1,Un,zd,hlo,hhi,hap,d1,d2,sa,sb,xa,Qa,AV.cut,pa,Sa,js]
      subst hQ
      exact⟨a'.length+b'.length+1,by rw[hmn];omega,va,_,p::a',b',false,out++[(lo,hi)],by simp;omega,ha,.inr rfl,by rw[hprs];simp[js],by simp;omega,by simp,by rw[hs,List.append_assoc]⟩
    ·have d1:=mb c1
     rw[if_neg c1,List.nil_append] at hs
     by_cases c2:p.2 < q.2
     ·have d2:=Za c2
      rw[if_pos c2] at hs
      simp -implicitDefEqProofs only[SP,WP,oa,sevalprocAttr,Be,la',lb',z1',z2',i1,i2,l0,l1,p0,p1,Un,zd,hlo,hhi,d1,d2,sa,sb,xa,Qa,AV.cut,pa,Sa,js]
      subst hQ
      exact⟨a'.length+b'.length+1,by rw[hmn];omega,_,vb,a',q::b',nl,out,by simp;omega,.inr rfl,hb,rfl,by omega,hnl,hs⟩
     ·have d2:=mb c2
      rw[if_neg c2] at hs
      simp -implicitDefEqProofs only[SP,WP,oa,sevalprocAttr,Be,la',lb',z1',z2',i1,i2,l0,l1,p0,p1,Un,zd,hlo,hhi,d1,d2,sa,sb,xa,Qa,AV.cut,pa,Sa,js]
      subst hQ
      exact⟨a'.length+b'.length+1,by rw[hmn];omega,va,_,p::a',b',nl,out,by simp;omega,ha,.inr rfl,rfl,by omega,hnl,hs⟩
 obtain⟨r,h1,E,H,nl,rfl,hE,hnl⟩:=vd hloop
 simp only[js,Td,List.map_nil] at h1
 generalize te (a.length+b.length) a b=u at *
 have hz:(0 < 2)=True:=by simp
 cases nl with
 |true=>
  refine⟨.qa,?_,.inl ⟨rfl,by rw[hnl rfl];rfl⟩⟩
  simp -implicitDefEqProofs only[Aj,SX,sevalprocAttr,Cn,Tc,ff,hz,xa,Qa,AV.cut,pa,Sa,h1,hE]
 |false=>
  refine⟨.lit 2 (Td u),?_,.inr rfl⟩
  simp -implicitDefEqProofs only[Aj,SX,sevalprocAttr,Cn,Tc,ff,hz,xa,Qa,AV.cut,pa,Sa,h1,hE]
end Go.AM.B1
namespace Go.AM.B1
open Go.AM Go.AM.So
theorem Ez {top:Int}:∀ {l:List (Int×Int)} {last:Int},Ka top last l=true→∀ p∈l,last < p.1 - 1
 |q::l,last,h,p,hp=>by
  obtain⟨h1,h2,h3,h4,h5⟩:=Zc h
  rcases List.mem_cons.1 hp with rfl | hp
  ·omega
  ·have:=Ez h5 p hp;omega
theorem uo {top last x:Int} {l:List (Int×Int)} (h:Ka top last l=true) (hx:Eh x l):last+1 < x:=by
 obtain⟨p,hp,h1,h2⟩:=hx
 have:=Ez h p hp;omega
theorem Np {top:Int}:∀ (n:Nat) (a b:List (Int×Int)) (la lb:Int),Ka top la a=true→Ka top lb b=true→a.length+b.length≤n→
 (∀ x,Eh x (te n a b)↔Eh x a∧Eh x b)∧∀ p∈te n a b,p.1≤p.2
 |0,a,b,la,lb,_,_,hn=>by
  have:a=[]:=List.eq_nil_of_length_eq_zero (by omega)
  subst this
  exact⟨fun x=>by simp[te,Tj],by simp[te]⟩
 |n+1,[],b,la,lb,_,_,hn=>⟨fun x=>by simp[te,Tj],by simp[te]⟩
 |n+1,p::a,[],la,lb,_,_,hn=>⟨fun x=>by simp[te,Tj],by simp[te]⟩
 |n+1,p::a,q::b,la,lb,ha,hb,hn=>by
  obtain⟨a1,a2,a3,a4,a5⟩:=Zc ha
  obtain⟨b1,b2,b3,b4,b5⟩:=Zc hb
  rw[te]
  have hlo:p.1≤(if q.1 > p.1 then q.1 else p.1)∧q.1≤(if q.1 > p.1 then q.1 else p.1)∧((if q.1 > p.1 then q.1 else p.1)=p.1∨(if q.1 > p.1 then q.1 else p.1)=q.1):=by split <;> omega
  have hhi:(if q.2 < p.2 then q.2 else p.2)≤p.2∧(if q.2 < p.2 then q.2 else p.2)≤q.2∧((if q.2 < p.2 then q.2 else p.2)=p.2∨(if q.2 < p.2 then q.2 else p.2)=q.2):=by split <;> omega
  generalize (if q.1 > p.1 then q.1 else p.1)=lo at *
  generalize (if q.2 < p.2 then q.2 else p.2)=hi at *
  have hpc:∀ x,Eh x (if lo≤hi then [(lo,hi)] else [])↔(p.1≤x∧x≤p.2)∧(q.1≤x∧x≤q.2):=by
   intro x
   by_cases h:lo≤hi
   ·rw[if_pos h,zl];simp only;omega
   ·rw[if_neg h]
    simp only[Tj,false_iff]
    omega
  have hpl:∀ r∈(if lo≤hi then [(lo,hi)] else []),r.1≤r.2:=by
   intro r hr
   by_cases h:lo≤hi
   ·rw[if_pos h] at hr;simp at hr;subst hr;exact h
   ·rw[if_neg h] at hr;simp at hr
  by_cases c:p.2 < q.2
  ·rw[if_pos c]
   have ih:=Np n a (q::b) p.2 lb a5 hb (by simp at hn ⊢;omega)
   refine⟨fun x=> ?_,fun r hr=> ?_⟩
   ·rw[Lp,hpc,ih.1,Cj,Cj]
    have hfar:Eh x b→q.2+1 < x:=uo b5
    constructor
    ·rintro (⟨h1,h2⟩ | ⟨h1,h2⟩)
     ·exact⟨.inl h1,.inl h2⟩
     ·exact⟨.inr h1,h2⟩
    ·rintro⟨h1 | h1,h2⟩
     ·rcases h2 with h2 | h2
      ·exact .inl ⟨h1,h2⟩
      ·have:=hfar h2;omega
     ·exact .inr ⟨h1,h2⟩
   ·rcases List.mem_append.1 hr with h | h
    ·exact hpl r h
    ·exact ih.2 r h
  ·rw[if_neg c]
   have ih:=Np n (p::a) b la q.2 ha b5 (by simp at hn ⊢;omega)
   refine⟨fun x=> ?_,fun r hr=> ?_⟩
   ·rw[Lp,hpc,ih.1,Cj,Cj]
    have hfar:Eh x a→p.2+1 < x:=uo a5
    constructor
    ·rintro (⟨h1,h2⟩ | ⟨h1,h2⟩)
     ·exact⟨.inl h1,.inl h2⟩
     ·exact⟨h1,.inr h2⟩
    ·rintro⟨h1,h2 | h2⟩
     ·rcases h1 with h1 | h1
      ·exact .inl ⟨h1,h2⟩
      ·have:=hfar h1;omega
     ·exact .inr ⟨h1,h2⟩
   ·rcases List.mem_append.1 hr with h | h
    ·exact hpl r h
    ·exact ih.2 r h
theorem SH {top:Int} {a b:List (Int×Int)} (ha:Ka top (-2) a=true) (hb:Ka top (-2) b=true):te (a.length+b.length) a b≠[]↔∃ x,Eh x a∧Eh x b:=by
 have h:=Np (a.length+b.length) a b (-2) (-2) ha hb (Nat.le_refl _)
 constructor
 ·intro hne
  obtain⟨p,r,hpr⟩:=List.exists_cons_of_ne_nil hne
  have hp:p∈te (a.length+b.length) a b:=by rw[hpr];simp
  exact⟨p.1,(h.1 p.1).1 ⟨p,hp,Int.le_refl _,h.2 p hp⟩⟩
 ·rintro⟨x,hx⟩ he
  have:=(h.1 x).2 hx
  rw[he] at this
  exact Tj x this
theorem tt:∀ (n:Nat) (a b:List (Int×Int)),(te n a b).length≤n
 |0,a,b=>by simp[te]
 |n+1,[],b=>by simp[te]
 |n+1,p::a,[]=>by simp[te]
 |n+1,p::a,q::b=>by
  rw[te,List.length_append]
  generalize (if q.1 > p.1 then q.1 else p.1)=lo
  generalize (if q.2 < p.2 then q.2 else p.2)=hi
  have h1:(if lo≤hi then [(lo,hi)] else []).length≤1:=by
   by_cases h:lo≤hi
   ·rw[if_pos h];simp
   ·rw[if_neg h];simp
  by_cases c:p.2 < q.2
  ·rw[if_pos c];have:=tt n a (q::b);omega
  ·rw[if_neg c];have:=tt n (p::a) b;omega
theorem Dw (A B:PV) (a b:List (Int×Int)) (hA:Ah 2 A (Td a)) (hB:Ah 2 B (Td b)) (hva:Ka Mu (-2) a=true) (hvb:Ka Mu (-2) b=true) (hw:(a.length+b.length) * 16≤140737488355328):
 Mj [A,B]=some (.lit 2 (Td (te (a.length+b.length) a b))):=by
 have h1:=mr A a hA (by omega) hva
 have h2:=mr B b hB (by omega) hvb
 obtain⟨u,h3,h4⟩:=KF (.lit 2 (Td a)) (.lit 2 (Td b)) a b (.inr rfl) (.inr rfl) hw
 have h5:=xj u _ h4 (by have:=tt (a.length+b.length) a b;omega)
 rw[← MD] at h5
 have h6:Zj [u]=some (.lit 2 (Td (te (a.length+b.length) a b))):=by
  simp -implicitDefEqProofs only[Zj,SP,SA,SQ,sevalprocAttr,Im,He,Rb,h5]
 simp -implicitDefEqProofs only[Mj,SP,SA,SQ,sevalprocAttr,Om,He,Rb,h1,h2,h3,h6]
theorem Eo (v:PV) (l:List (Int×Int)) (hv:Ah 2 v (Td l)) (hw:l.length * 16≤140737488355328) (hval:Ka 255 (-2) l=true):ef [v]=some (.lit 2 (Td l)):=by
 have h1:=xj v l hv hw
 have h2:=Po (.lit 2 (Td l)) l (.inr rfl) (by unfold maxLen;omega) 255 (by decide)
 rw[hval] at h2
 simp -implicitDefEqProofs only[ef,SP,SA,SQ,sevalprocAttr,yl,He,Rb,h1,h2]
theorem uz (A B:PV) (a b:List (Int×Int)) (hA:Ah 2 A (Td a)) (hB:Ah 2 B (Td b)) (hva:Ka 255 (-2) a=true) (hvb:Ka 255 (-2) b=true) (hw:(a.length+b.length) * 16≤140737488355328):
 tm [A,B]=some (.lit 2 (Td (te (a.length+b.length) a b))):=by
 have h1:=Eo A a hA (by omega) hva
 have h2:=Eo B b hB (by omega) hvb
 obtain⟨u,h3,h4⟩:=KF (.lit 2 (Td a)) (.lit 2 (Td b)) a b (.inr rfl) (.inr rfl) hw
 have h5:=xj u _ h4 (by have:=tt (a.length+b.length) a b;omega)
 rw[← lF] at h5
 have h6:qm [u]=some (.lit 2 (Td (te (a.length+b.length) a b))):=by
  simp -implicitDefEqProofs only[qm,SP,SA,SQ,sevalprocAttr,yq,He,Rb,h5]
 simp -implicitDefEqProofs only[tm,SP,SA,SQ,sevalprocAttr,Sp,He,Rb,h1,h2,h3,h6]
theorem mw (n:Int) (l:List (Int×Int)):Dc n l=n+Dc 0 l:=by
 induction l generalizing n with
 |nil=>simp[Dc]
 |cons p l ih=>rw[Dc,Dc,ih,ih (0+(p.2 - p.1+1))];omega
theorem En {top:Int}:∀ {l:List (Int×Int)} {last:Int},Ka top last l=true→0≤Dc 0 l∧(l≠[]→1≤Dc 0 l∧Dc 0 l≤top - last - 1∧Dc 0 l≤top+1)∧Dc 0 l≤max 0 (top+1)
 | [],last,_=>⟨by simp[Dc],fun h=>absurd rfl h,by simp[Dc];omega⟩
 |p::l,last,h=>by
  obtain⟨h1,h2,h3,h4,h5⟩:=Zc h
  have ih:=En h5
  rw[Dc,mw]
  have key:l≠[]∨l=[]:=by cases l <;> simp
  rcases key with hl | hl
  ·have:=ih.2.1 hl
   exact⟨by omega,fun _=>⟨by omega,by omega,by omega⟩,by omega⟩
  ·subst hl
   simp only[Dc]
   exact⟨by omega,fun _=>⟨by omega,by omega,by omega⟩,by omega⟩
theorem Aq {top:Int}:∀ {l:List (Int×Int)} {last:Int},Ka top last l=true→(l.length:Int)≤max 0 (top - last)
 | [],last,_=>by simp;omega
 |p::l,last,h=>by
  obtain⟨h1,h2,h3,h4,h5⟩:=Zc h
  have:=Aq h5
  simp only[List.length_cons]
  omega
theorem Ps (v:PV) (l:List (Int×Int)) (hv:Ah 2 v (Td l)) (hw:l.length * 16≤140737488355328) (hval:Ka 255 (-2) l=true):Vj [v]=some (i64 (Dc 0 l)):=by
 have h1:=Eo v l hv hw hval
 have h2:=UO (.lit 2 (Td l)) l (.inr rfl) (by unfold maxLen;omega) (top:=255) (by decide) hval
 simp -implicitDefEqProofs only[Vj,SP,SA,SQ,sevalprocAttr,Tq,He,Rb,h1,h2]
end Go.AM.B1
namespace Go.AM.B1
open Go.AM
theorem Cl (A:List aa) (o:aa):(A++[o])[A.length]? =some o:=by simp
theorem ll (A:List aa) (o o':aa):(A++[o]).set A.length o'=A++[o']:=by
 apply List.ext_getElem?
 intro i
 by_cases h:i=A.length
 ·subst h;simp
 ·rw[List.getElem?_set_ne (Ne.symm h)]
  rcases Nat.lt_or_ge i A.length with h1 | h1
  ·rw[List.getElem?_append_left h1,List.getElem?_append_left h1]
  ·rw[List.getElem?_append_right h1,List.getElem?_append_right h1]
   have:i - A.length≠0:=by omega
   obtain⟨k,hk⟩:∃ k,i - A.length=k+1:=⟨i - A.length - 1,by omega⟩
   rw[hk];simp
abbrev u32 (n:Int):PV:= .int .u32 n
abbrev Ut (S:PV) (x d bits len i left:Int) (ends:Bool):Tr:=
 ((((((Tr.lf.set 18 (.pv (i64 i))).set 17 (.pv (i64 len))).set 16 (.pv S)).set 9 (.pv (.bool ends))).set 8 (.pv (u32 left))).set 4 (.pv (.rp [i64 d,u32 bits] 0))).set 2 (.pv (i64 x))
def Dv (bits:Int) (i:Nat):Bool:=IntKind.u32.wrap (((BitVec.ofInt IntKind.u32.bits (bits.fdiv (2 ^ min i IntKind.u32.bits)) &&& BitVec.ofInt IntKind.u32.bits 1).toNat:Nat):Int)==1
theorem Ht (bits:Int) (i:Nat):(IntKind.u32.wrap (((BitVec.ofInt IntKind.u32.bits (bits.fdiv (2 ^ min i IntKind.u32.bits)) &&& BitVec.ofInt IntKind.u32.bits 1).toNat:Nat):Int)==1)=Dv bits i:=rfl
def aT (left:Int) (i:Nat):Int:=IntKind.u32.wrap (((BitVec.ofInt IntKind.u32.bits left ||| BitVec.ofInt IntKind.u32.bits (IntKind.u32.wrap (1 * 2 ^ min i IntKind.u32.bits))).toNat:Nat):Int)
theorem yG (left:Int) (i:Nat):IntKind.u32.wrap (((BitVec.ofInt IntKind.u32.bits left ||| BitVec.ofInt IntKind.u32.bits (IntKind.u32.wrap (1 * 2 ^ min i IntKind.u32.bits))).toNat:Nat):Int)=aT left i:=rfl
section
variable (call:Fa) (A:List aa) (ss:List PV) (x bits left:Int) (d:Nat) (ends:Bool) (i len:Nat) (hi:i < len) (hl:len=ss.length) (hw:len≤maxLen) (ps:List PV) (first:Int) (hs:ss[i]? =some (.agg [.lit 1 ps,i64 first]))
include hi hl hw hs
theorem uP (hb:Dv bits i=false):
 fa (ga call ab) (fun s=>some (tidy [2,4,8,9,16,17,18] s)) ⟨Ut (.lit 2 ss) x d bits len i left ends,A⟩=
  some (.norm,⟨Ut (.lit 2 ss) x d bits len (i+1:Nat) left ends,A++[.box [.pv (.lit 1 ps),.pv (i64 first)]]⟩):=by
 have e1:decide ((i:Int) < (len:Int))=true:=Za (by omega)
 have hq:Ca (i:Int) ss.length:=by unfold Ca;omega
 have t1:((i:Int)).toNat=i:=by simp
 have t2:=Bb hi hw
 have hn:((i:Int) < 0)=False:=by simp
 simp -implicitDefEqProofs only[SP,SA,SQ,sevalprocAttr,fa,ab,e1,eq_true hq,t1,t2,hs,hn,Ht,hb,ma,Cl,ll,tidy,Xb,Ut]
theorem IQ (hb:Dv bits i=true) (qs:List PV) (hp:ps[d]? =some (.lit 2 qs)) (hdl:d < ps.length) (hd:d < 4611686018427387904) (hh:Hi [.lit 2 qs,i64 x]=some (.bool false)):
 fa (ga call ab) (fun s=>some (tidy [2,4,8,9,16,17,18] s)) ⟨Ut (.lit 2 ss) x d bits len i left ends,A⟩=
  some (.norm,⟨Ut (.lit 2 ss) x d bits len (i+1:Nat) left ends,A++[.box [.pv (.lit 1 ps),.pv (i64 first)]]⟩):=by
 have e1:decide ((i:Int) < (len:Int))=true:=Za (by omega)
 have hq:Ca (i:Int) ss.length:=by unfold Ca;omega
 have t1:((i:Int)).toNat=i:=by simp
 have t2:=Bb hi hw
 have hn:((i:Int) < 0)=False:=by simp
 have hq2:Ca (d:Int) ps.length:=by unfold Ca;omega
 have t3:((d:Int)).toNat=d:=by simp
 simp -implicitDefEqProofs only[SP,SA,SQ,sevalprocAttr,fa,ab,e1,eq_true hq,eq_true hq2,t1,t2,t3,hs,hn,Ht,hb,hp,hh,He,Rb,ma,Cl,ll,tidy,Xb,Ut]
theorem xS (hb:Dv bits i=true) (qs:List PV) (hp:ps[d]? =some (.lit 2 qs)) (hdl:d < ps.length) (hd:d < 4611686018427387904) (hh:Hi [.lit 2 qs,i64 x]=some (.bool true)):
 fa (ga call ab) (fun s=>some (tidy [2,4,8,9,16,17,18] s)) ⟨Ut (.lit 2 ss) x d bits len i left ends,A⟩=
  some (.norm,⟨Ut (.lit 2 ss) x d bits len (i+1:Nat) (aT left i) (ends||(ps.length==d+1)),A++[.box [.pv (.lit 1 ps),.pv (i64 first)]]⟩):=by
 have e1:decide ((i:Int) < (len:Int))=true:=Za (by omega)
 have hq:Ca (i:Int) ss.length:=by unfold Ca;omega
 have t1:((i:Int)).toNat=i:=by simp
 have t2:=Bb hi hw
 have hn:((i:Int) < 0)=False:=by simp
 have hq2:Ca (d:Int) ps.length:=by unfold Ca;omega
 have t3:((d:Int)).toNat=d:=by simp
 have t4:IntKind.i64.wrap ((d:Int)+1)=((d+1:Nat):Int):=Da (by omega)
 have t5:((ps.length:Int)==((d+1:Nat):Int))=(ps.length==d+1):=by
  rw[Bool.eq_iff_iff];simp;omega
 cases ends with
 |true=>simp -implicitDefEqProofs only[SP,SA,SQ,sevalprocAttr,fa,ab,e1,eq_true hq,eq_true hq2,t1,t2,t3,t4,t5,hs,hn,Ht,yG,hb,hp,hh,He,Rb,ma,Cl,ll,tidy,Xb,Ut]
 |false=>simp -implicitDefEqProofs only[SP,SA,SQ,sevalprocAttr,fa,ab,e1,eq_true hq,eq_true hq2,t1,t2,t3,t4,t5,hs,hn,Ht,yG,hb,hp,hh,He,Rb,ma,Cl,ll,tidy,Xb,Ut]
end
structure ec where
 parts:List (List (Int×Int))
 first:Int
def Sd (l:List (Int×Int)):PV:= .lit 2 (Td l)
def Ed (s:ec):PV:= .agg [.lit 1 (s.parts.map Sd),i64 s.first]
def YL (l:List (Int×Int)) (x:Int):Bool:=(me x 0 (yu l)).2
def Bp (s:ec) (d:Nat) (x:Int):Bool:=
 match s.parts[d]? with
 |some l=>YL l x
 |none=>false
def Cf (x bits:Int) (d:Nat):Nat→List ec→Int×Bool→Int×Bool
 |_,[],acc=>acc
 |i,s::r,acc=>Cf x bits d (i+1) r (if Dv bits i&&Bp s d x then (aT acc.1 i,acc.2||(s.parts.length==d+1)) else acc)
theorem WD (l:List (Int×Int)):Zu (.lit 2 (Td l))=some l:=by
 have:Va Vv (Td l)=some l:=by
  induction l with
  |nil=>rfl
  |cons p l ih=>simp only[Td,List.map_cons,Va,Vv,Option.bind_some] at ih ⊢;rw[ih];rfl
 exact this
theorem pM {l:List (Int×Int)} (h:l.length * 16≤140737488355328) (x:Int):Hi [Sd l,i64 x]=some (.bool (YL l x)):=by
 simp only[Hi,Sd,WD,Option.bind_some,if_pos h];rfl
def sB (ss:List ec):List aa:=ss.map fun s=> .box [.pv (.lit 1 (s.parts.map Sd)),.pv (i64 s.first)]
section
variable (call:Fa) (H:List aa) (id:Nat) (rest:List AV) (S:PV) (ss:List ec) (x bits:Int) (d:Nat)
 (hid:H[id]? =some (.box (.pv S::rest))) (hS:Ah 2 S (ss.map Ed)) (hw:ss.length≤maxLen) (hd:d < 4611686018427387904)
 (ta:∀ i s,ss[i]? =some s→Dv bits i=true→d < s.parts.length) (hsz:∀ s∈ss,∀ l∈s.parts,l.length * 16≤140737488355328)
include hid hS hw hd ta hsz
theorem Rm:Hd call jg [.ptr id 0,.pv (.agg [i64 d,u32 bits]),.pv (i64 x)] H=
 some (.pv (.bc [u32 (Cf x bits d 0 ss (0,false)).1,.bool (Cf x bits d 0 ss (0,false)).2]),H++sB ss):=by
 have ls:=hS.len
 simp only[List.length_map] at ls
 have key:=Gi (g:=fa (ga call ab) (fun s=>some (tidy [2,4,8,9,16,17,18] s)))
  (fun i t=>∃ left ends,t=⟨Ut S x d bits ss.length i left ends,H++sB (ss.take i)⟩∧Cf x bits d 0 ss (0,false)=Cf x bits d i (ss.drop i) (left,ends))
  (fun ex t=>ex= .exit 0∧t=⟨(Ut S x d bits ss.length ss.length (Cf x bits d 0 ss (0,false)).1 (Cf x bits d 0 ss (0,false)).2).set 19 (.pv (.bool false)),H++sB ss⟩)
  wa ss.length 0 ⟨Ut S x d bits ss.length (0:Nat) 0 false,H⟩ (by unfold wa;unfold maxLen at hw;omega) (by omega) ⟨0,false,by simp[sB],rfl⟩ ?_ ?_
 ·obtain⟨ex,t,h,_,rfl,rfl⟩:=key
  generalize Cf x bits d 0 ss (0,false)=r at *
  simp -implicitDefEqProofs only[SP,SA,SQ,sevalprocAttr,jg,ls,hid,Gn,tidy,Xb,Ut,h]
  simp only[Ut] at h
  have h':Eb (fa (ga call ab) (fun s=>some (tidy [2,4,8,9,16,17,18] s))) wa ⟨((((((Tr.lf.set 18 (.pv (i64 0))).set 17 (.pv (i64 ss.length))).set 16 (.pv S)).set 9 (.pv (.bool false))).set 8 (.pv (u32 0))).set 4 (.pv (.rp [i64 d,u32 bits] 0))).set 2 (.pv (i64 x)),H⟩=_:=h
  simp only[tidy,Xb] at h'
  rw[h']
  simp -implicitDefEqProofs only[SP,SA,SQ,sevalprocAttr,Rb]
 ·rintro i hi t ⟨left,ends,rfl,hb⟩
  have hlit:=hS.lit (i:=i) (by simpa using hi)
  subst hlit
  have hg:(ss.map Ed)[i]? =some (.agg [.lit 1 (ss[i].parts.map Sd),i64 ss[i].first]):=by simp[hi,Ed]
  have hdr:ss.drop i=ss[i]::ss.drop (i+1):=List.drop_eq_getElem_cons hi
  have hJ:H++sB (ss.take (i+1))=H++sB (ss.take i)++[.box [.pv (.lit 1 (ss[i].parts.map Sd)),.pv (i64 ss[i].first)]]:=by
   rw[List.take_succ_eq_append_getElem hi,sB,List.map_append,List.append_assoc];rfl
  rw[hdr,Cf] at hb
  cases hbit:Dv bits i with
  |false=>
   rw[hbit] at hb
   refine .inl ⟨_,uP call _ _ x bits left d ends i ss.length hi (by simp) hw _ _ hg hbit,left,ends,by rw[hJ],hb⟩
  |true=>
   have hdl:=ta i ss[i] (by simp[hi]) hbit
   have hp:(ss[i].parts.map Sd)[d]? =some (.lit 2 (Td ss[i].parts[d])):=by simp[hdl,Sd]
   have hc:=pM (hsz ss[i] (List.getElem_mem hi) ss[i].parts[d] (List.getElem_mem hdl)) x
   have hat:Bp ss[i] d x=YL ss[i].parts[d] x:=by simp[Bp,hdl]
   rw[hbit,hat,Bool.true_and] at hb
   cases hh:YL ss[i].parts[d] x with
   |false=>
    rw[hh] at hb hc
    refine .inl ⟨_,IQ call _ _ x bits left d ends i ss.length hi (by simp) hw _ _ hg hbit _ hp (by simpa using hdl) hd hc,left,ends,by rw[hJ],hb⟩
   |true=>
    rw[hh] at hb hc
    refine .inl ⟨_,xS call _ _ x bits left d ends i ss.length hi (by simp) hw _ _ hg hbit _ hp (by simpa using hdl) hd hc,_,_,by rw[hJ],?_⟩
    rw[hb]
    simp
 ·rintro t ⟨left,ends,rfl,hb⟩
  rw[List.drop_length] at hb
  simp only[Cf] at hb
  refine⟨.exit 0,_,?_,rfl,rfl,rfl⟩
  rw[hb,List.take_length]
  have e1:decide ((ss.length:Int) < (ss.length:Int))=false:=mb (by omega)
  simp -implicitDefEqProofs only[SP,SA,SQ,sevalprocAttr,fa,ab,e1,Ut]
end
end Go.AM.B1
namespace Go.AM.B1
open Go.AM
abbrev Al:=Nat×Int
def Wf (a:Al):PV:= .agg [i64 a.1,u32 a.2]
def My (l:List Al) (k:Nat):List (PV×PV):=(l.zipIdx k).map fun p=>(Wf p.1,i64 p.2)
theorem Cx (a:Al) (l:List Al) (k:Nat):My (a::l) k=(Wf a,i64 k)::My l (k+1):=rfl
theorem DC (a:Al):∀ (l:List Al) (k:Nat),My (l++[a]) k=My l k++[(Wf a,i64 (k+l.length:Nat))]
 | [],k=>by simp[My]
 |b::l,k=>by rw[List.cons_append,Cx,DC a l (k+1),Cx];simp;omega
theorem Qy (a b:Al):Yi (.row [1,1]) (Wf a) (Wf b)=some (decide (a=b)):=by
 obtain⟨a1,a2⟩:=a;obtain⟨b1,b2⟩:=b
 simp only[Wf,Yi,oj,Ls,if_true,Option.bind_some,Option.map_some,Bool.and_true,Prod.mk.injEq,Bool.decide_and]
 congr 1
 rw[Bool.eq_iff_iff]
 simp
 intro _
 omega
def wo (a:Al):List Al→Nat→Option Nat
 | [],_=>none
 |b::l,k=>if a=b then some k else wo a l (k+1)
theorem jE (a:Al):∀ (l:List Al) (k j:Nat),Dj (.row [1,1]) (Wf a) (My l k) j=some ((wo a l k).map fun i=>(j+(i - k),i64 i)):=by
 intro l
 induction l with
 |nil=>intro k j;rfl
 |cons b l ih=>
  intro k j
  rw[Cx,Dj,Qy]
  simp only[Option.bind_some,wo]
  by_cases h:a=b
  ·simp[h]
  ·rw[if_neg h,ih]
   simp only[h,decide_false,Bool.false_eq_true,if_false,Option.some.injEq]
   cases hi:wo a l (k+1) with
   |none=>rfl
   |some i=>
    have:k+1≤i:=by
     clear ih
     induction l generalizing k with
     |nil=>simp[wo] at hi
     |cons c l ihl=>
      simp only[wo] at hi
      split at hi
      ·injection hi with hi;omega
      ·have:=ihl (k+1) hi;omega
    simp only[Option.map_some,Option.some.injEq,Prod.mk.injEq,and_true]
    omega
abbrev wh (R0 R1:aa) (S:PV) (nl:Bool) (sets:List Al) (rows:aa) (n:Nat) (T:List aa):List aa:=
 R0::R1:: .map (My sets 0):: .box [.pv S,.mp 2,.uq 4 nl 2 (sets.map Wf),.own 5 n]:: .tok 2 sets.length nl::rows::T
section
variable (call:Fa) (R0 R1:aa) (S:PV) (nl:Bool) (sets:List Al) (rows:aa) (n:Nat) (T:List aa) (a:Al)
theorem wQ {i:Nat} (h:wo a sets 0=some i):
 Hd call Sc [.ptr 3 0,.pv (Wf a)] (wh R0 R1 S nl sets rows n T)=some (.pv (.bc [i64 i,.bool true]),wh R0 R1 S nl sets rows n T):=by
 have hf:=jE a sets 0 0
 rw[h] at hf
 simp only[Option.map_some] at hf
 have hk:(Yi (.row [1,1]) (Wf a) (Wf a)).isSome=true:=by rw[Qy];rfl
 simp only[Wf] at hf hk
 simp -implicitDefEqProofs only[SP,SA,SQ,sevalprocAttr,Wf,Sc,hf,eq_true hk]
theorem sO (h:wo a sets 0=none) (hl:sets.length=64):
 Hd call Sc [.ptr 3 0,.pv (Wf a)] (wh R0 R1 S nl sets rows n T)=some (.pv (.bc [i64 0,.bool false]),wh R0 R1 S nl sets rows n T):=by
 have hf:=jE a sets 0 0
 rw[h] at hf
 simp only[Option.map_none] at hf
 have hk:(Yi (.row [1,1]) (Wf a) (Wf a)).isSome=true:=by rw[Qy];rfl
 have e1:(((sets.map Wf).length:Int)==64)=true:=by simp[hl]
 simp only[Wf] at hf hk
 simp -implicitDefEqProofs only[SP,SA,SQ,sevalprocAttr,Sc,Wf,hf,eq_true hk,e1]
theorem iJ (h:wo a sets 0=none) (hl:sets.length < 64):
 Hd call Sc [.ptr 3 0,.pv (Wf a)] (wh R0 R1 S nl sets rows n T)=some (.pv (.bc [i64 sets.length,.bool true]),wh R0 R1 S false (sets++[a]) rows n T):=by
 have hf:=jE a sets 0 0
 rw[h] at hf
 simp only[Option.map_none] at hf
 have hk:(Yi (.row [1,1]) (Wf a) (Wf a)).isSome=true:=by rw[Qy];rfl
 have e1:((sets.length:Int)==64)=false:=Ik (by omega)
 have hp:=DC a sets 0
 rw[Nat.zero_add] at hp
 have q1:Cb (sets.length+1) 16:=by unfold Cb;omega
 have hlen:(sets.map Wf).length=sets.length:=by simp
 have hlen2:(sets++[a]).length=sets.length+1:=by simp
 have hmap:(sets++[a]).map Wf=sets.map Wf++[Wf a]:=by simp
 unfold wh
 rw[hp,hlen2,hmap]
 simp only[Wf] at hf hk ⊢
 simp -implicitDefEqProofs only[SP,SA,SQ,sevalprocAttr,Sc,hf,eq_true hk,e1,hlen,eq_true q1,fj,AV.cI,AV.Hs]
end
end Go.AM.B1
namespace Go.AM.B1
open Go.AM
theorem pk (n:Nat) (cs:List AV):pa n (.box cs)=(Va (AV.cut n deep) cs).map .box:=rfl
theorem ak (n:Nat) (es:List (PV×PV)):pa n (.map es)=some (.map es):=rfl
theorem Pp (n sz:Nat) (ag:Bool) (cs:List AV) (fl:Nat) (nl:Bool):pa n (.seq sz ag cs fl nl)=if cs.all (AV.Wc n deep)=true then some (.seq sz ag cs fl nl) else none:=rfl
theorem Rj (n sz m:Nat) (nl:Bool):pa n (.tok sz m nl)=some (.tok sz m nl):=rfl
def Tg (ss:List ec) (a:Al) (x:Int) (sets:List Al):Option (List Al×Int):=
 if (Cf x a.2 a.1 0 ss (0,false)).1=0 then some (sets,-2)
 else if (Cf x a.2 a.1 0 ss (0,false)).2=true then some (sets,-1)
 else match wo (a.1+1,(Cf x a.2 a.1 0 ss (0,false)).1) sets 0 with
  |some k=>some (sets,(k:Int))
  |none=>if sets.length < 64 then some (sets++[(a.1+1,(Cf x a.2 a.1 0 ss (0,false)).1)],(sets.length:Int)) else none
inductive Wp (k:Nat) (v:AV) (o:aa):Option (Ex×St)→Prop
 |mk (s:St):s.env.get k=v→s.H[0]? =some o→Wp k v o (some (.ret,s))
theorem IA {k:Nat} {v:AV} {o:aa} {s:St}:Wp k v o (some (.ret,s))=(s.env.get k=v∧s.H[0]? =some o):=
 propext ⟨fun h=>by cases h with | mk _ h h'=>exact⟨h,h'⟩,fun h=> .mk s h.1 h.2⟩
theorem Sn {k:Nat} {v:AV} {o:aa} {r:Option (Ex×St)} (h:Wp k v o r):∃ t,r=some (.ret,t)∧t.env.get k=v∧t.H[0]? =some o:=by
 cases h with | mk s h h'=>exact⟨s,rfl,h,h'⟩
def Aa (l:List Int):List AV:=l.map fun n=> .pv (i64 n)
theorem xh (l:List Int) (x:Nat) (v:Int):(Aa l).set x (.pv (i64 v))=Aa (l.set x v):=by simp[Aa,List.map_set]
theorem Ra (l:List Int):(Aa l).length=l.length:=by simp[Aa]
theorem Xm (n d:Nat) (l:List Int):Va (AV.cut n d) (Aa l)=some (Aa l):=by
 induction l with
 |nil=>rfl
 |cons a l ih=>simp only[Aa,List.map_cons,Va,Ha,Option.bind_some] at ih ⊢;rw[ih];rfl
abbrev Kj (i x:Int):Tr:=(((Tr.lf.set 30 (.pv (i64 x))).set 4 (.ptr 6 0)).set 3 (.pv (i64 i))).set 0 (.ptr 3 0)
section
variable (R0 R1:aa) (S:PV) (nl:Bool) (sets:List Al) (rows:aa) (n:Nat) (row:List Int) (ss:List ec) (i x:Nat) (a:Al)
 (h0:pa 7 R0=some R0) (h1:pa 7 R1=some R1) (hr:pa 7 rows=some rows) (hrow:row.length=256) (hx:x < 256)
 (hi:i < sets.length) (ha:(sets.map Wf)[i]? =some (.agg [i64 a.1,u32 a.2])) (had:a.1 < 4611686018427387904)
 (hS:Ah 2 S (ss.map Ed)) (hw:ss.length≤maxLen)
 (ta:∀ i s,ss[i]? =some s→Dv a.2 i=true→a.1 < s.parts.length) (hsz:∀ s∈ss,∀ l∈s.parts,l.length * 16≤140737488355328)
include h0 h1 hr hrow hx hi ha had hS hw ta hsz
theorem oM (hb:(Cf x a.2 a.1 0 ss (0,false)).1=0):
 Zb (za ua 7) [0,3,4,30] ya 7 ⟨Kj i x,wh R0 R1 S nl sets rows n [.box (Aa row)]⟩=
  some (.norm,⟨Kj i (x+1:Nat),wh R0 R1 S nl sets rows n [.box (Aa (row.set x (-2)))]⟩):=by
 have e1:decide ((x:Int) < 256)=true:=Za (by omega)
 have hlen:(sets.map Wf).length=sets.length:=by simp
 have hq:Ca (i:Int) sets.length:=by unfold Ca;omega
 have hq2:Ca (x:Int) 256:=by unfold Ca;omega
 have t1:((i:Int)).toNat=i:=by simp
 have t3:((x:Int)).toNat=x:=by simp
 have t2:=Bb (i:=x) (n:=256) hx (by unfold maxLen;omega)
 have hbeh:=Rm (za ua 6) (wh R0 R1 S nl sets rows n [.box (Aa row)]) 3 _ S ss x a.2 a.1 rfl hS hw had ta hsz
 rw[hb] at hbeh
 have hle:x+1≤(Aa row).length:=by rw[Ra];omega
 have hz:(((0:Nat)+x+1)≤(Aa row).length)=True:=by simp only[eq_iff_iff,iff_true];omega
 simp only[wh,List.cons_append,List.nil_append] at hbeh
 generalize (Cf x a.2 a.1 0 ss (0,false)).2=ends at *
 simp -implicitDefEqProofs only[SP,SA,SQ,sevalprocAttr,Zb,fa,ya,ua,e1,hlen,eq_true hq,eq_true hq2,t1,t2,t3,ha,hbeh,hz,eq_true hle,xh,ma,xa,Qa,pk,ak,Rj,Ha,Xm,AV.cut,Rb,h0,h1,hr,Kj,wh]
theorem cN (hb:(Cf x a.2 a.1 0 ss (0,false)).1≠0) (hb2:(Cf x a.2 a.1 0 ss (0,false)).2=true):
 Zb (za ua 7) [0,3,4,30] ya 7 ⟨Kj i x,wh R0 R1 S nl sets rows n [.box (Aa row)]⟩=
  some (.norm,⟨Kj i (x+1:Nat),wh R0 R1 S nl sets rows n [.box (Aa (row.set x (-1)))]⟩):=by
 have e1:decide ((x:Int) < 256)=true:=Za (by omega)
 have hlen:(sets.map Wf).length=sets.length:=by simp
 have hq:Ca (i:Int) sets.length:=by unfold Ca;omega
 have hq2:Ca (x:Int) 256:=by unfold Ca;omega
 have t1:((i:Int)).toNat=i:=by simp
 have t3:((x:Int)).toNat=x:=by simp
 have t2:=Bb (i:=x) (n:=256) hx (by unfold maxLen;omega)
 have hbeh:=Rm (za ua 6) (wh R0 R1 S nl sets rows n [.box (Aa row)]) 3 _ S ss x a.2 a.1 rfl hS hw had ta hsz
 rw[hb2] at hbeh
 have hle:x+1≤(Aa row).length:=by rw[Ra];omega
 have hz:(((0:Nat)+x+1)≤(Aa row).length)=True:=by simp only[eq_iff_iff,iff_true];omega
 simp only[wh,List.cons_append,List.nil_append] at hbeh
 have e4:=Ik hb
 generalize (Cf x a.2 a.1 0 ss (0,false)).1=left at *
 simp -implicitDefEqProofs only[SP,SA,SQ,sevalprocAttr,Zb,fa,ya,ua,e1,hlen,eq_true hq,eq_true hq2,t1,t2,t3,ha,hbeh,e4,hz,eq_true hle,xh,ma,xa,Qa,pk,ak,Rj,Ha,Xm,AV.cut,Rb,h0,h1,hr,Kj,wh]
theorem XM (hb:(Cf x a.2 a.1 0 ss (0,false)).1≠0) (hb2:(Cf x a.2 a.1 0 ss (0,false)).2=false) {k:Nat} (hk:wo (a.1+1,(Cf x a.2 a.1 0 ss (0,false)).1) sets 0=some k):
 Zb (za ua 7) [0,3,4,30] ya 7 ⟨Kj i x,wh R0 R1 S nl sets rows n [.box (Aa row)]⟩=
  some (.norm,⟨Kj i (x+1:Nat),wh R0 R1 S nl sets rows n [.box (Aa (row.set x k))]⟩):=by
 have e1:decide ((x:Int) < 256)=true:=Za (by omega)
 have hlen:(sets.map Wf).length=sets.length:=by simp
 have hq:Ca (i:Int) sets.length:=by unfold Ca;omega
 have hq2:Ca (x:Int) 256:=by unfold Ca;omega
 have t1:((i:Int)).toNat=i:=by simp
 have t3:((x:Int)).toNat=x:=by simp
 have t2:=Bb (i:=x) (n:=256) hx (by unfold maxLen;omega)
 have hbeh:=Rm (za ua 6) (wh R0 R1 S nl sets rows n [.box (Aa row)]) 3 _ S ss x a.2 a.1 rfl hS hw had ta hsz
 rw[hb2] at hbeh
 have hle:x+1≤(Aa row).length:=by rw[Ra];omega
 have hz:(((0:Nat)+x+1)≤(Aa row).length)=True:=by simp only[eq_iff_iff,iff_true];omega
 simp only[wh,List.cons_append,List.nil_append] at hbeh
 have e4:=Ik hb
 have t5:IntKind.i64.wrap ((a.1:Int)+1)=((a.1+1:Nat):Int):=Da (by omega)
 have hmet:=wQ (za ua 6) R0 R1 S nl sets rows n (.box (Aa row)::sB ss) (a.1+1,(Cf x a.2 a.1 0 ss (0,false)).1) hk
 simp only[wh,Wf] at hmet
 generalize (Cf x a.2 a.1 0 ss (0,false)).1=left at *
 simp -implicitDefEqProofs only[SP,SA,SQ,sevalprocAttr,Zb,fa,ya,ua,e1,hlen,eq_true hq,eq_true hq2,t1,t2,t3,ha,hbeh,hmet,t5,e4,hz,eq_true hle,xh,ma,xa,Qa,pk,ak,Rj,Ha,Xm,AV.cut,Rb,h0,h1,hr,Kj,wh]
theorem WN (hb:(Cf x a.2 a.1 0 ss (0,false)).1≠0) (hb2:(Cf x a.2 a.1 0 ss (0,false)).2=false) (hk:wo (a.1+1,(Cf x a.2 a.1 0 ss (0,false)).1) sets 0=none) (hl:sets.length < 64):
 Zb (za ua 7) [0,3,4,30] ya 7 ⟨Kj i x,wh R0 R1 S nl sets rows n [.box (Aa row)]⟩=
  some (.norm,⟨Kj i (x+1:Nat),wh R0 R1 S false (sets++[(a.1+1,(Cf x a.2 a.1 0 ss (0,false)).1)]) rows n [.box (Aa (row.set x (sets.length:Int)))]⟩):=by
 have e1:decide ((x:Int) < 256)=true:=Za (by omega)
 have hlen:(sets.map Wf).length=sets.length:=by simp
 have hq:Ca (i:Int) sets.length:=by unfold Ca;omega
 have hq2:Ca (x:Int) 256:=by unfold Ca;omega
 have t1:((i:Int)).toNat=i:=by simp
 have t3:((x:Int)).toNat=x:=by simp
 have t2:=Bb (i:=x) (n:=256) hx (by unfold maxLen;omega)
 have hbeh:=Rm (za ua 6) (wh R0 R1 S nl sets rows n [.box (Aa row)]) 3 _ S ss x a.2 a.1 rfl hS hw had ta hsz
 rw[hb2] at hbeh
 have hle:x+1≤(Aa row).length:=by rw[Ra];omega
 have hz:(((0:Nat)+x+1)≤(Aa row).length)=True:=by simp only[eq_iff_iff,iff_true];omega
 simp only[wh,List.cons_append,List.nil_append] at hbeh
 have e4:=Ik hb
 have t5:IntKind.i64.wrap ((a.1:Int)+1)=((a.1+1:Nat):Int):=Da (by omega)
 have hmet:=iJ (za ua 6) R0 R1 S nl sets rows n (.box (Aa row)::sB ss) (a.1+1,(Cf x a.2 a.1 0 ss (0,false)).1) hk hl
 simp only[wh,Wf] at hmet ⊢
 generalize (Cf x a.2 a.1 0 ss (0,false)).1=left at *
 simp -implicitDefEqProofs only[SP,SA,SQ,sevalprocAttr,Zb,fa,ya,ua,e1,hlen,eq_true hq,eq_true hq2,t1,t2,t3,ha,hbeh,hmet,t5,e4,hz,eq_true hle,xh,ma,xa,Qa,pk,ak,Rj,Ha,Xm,AV.cut,Rb,h0,h1,hr,Kj,wh]
end
section
variable (R0 R1:aa) (S:PV) (nl:Bool) (sets:List Al) (rows:aa) (n:Nat) (row:List Int) (ss:List ec) (i x:Nat) (a:Al)
 (hrow:row.length=256) (hx:x < 256)
 (hi:i < sets.length) (ha:(sets.map Wf)[i]? =some (.agg [i64 a.1,u32 a.2])) (had:a.1 < 4611686018427387904)
 (hS:Ah 2 S (ss.map Ed)) (hw:ss.length≤maxLen)
 (ta:∀ i s,ss[i]? =some s→Dv a.2 i=true→a.1 < s.parts.length) (hsz:∀ s∈ss,∀ l∈s.parts,l.length * 16≤140737488355328)
include hrow hx hi ha had hS hw ta hsz
theorem LK (hb:(Cf x a.2 a.1 0 ss (0,false)).1≠0) (hb2:(Cf x a.2 a.1 0 ss (0,false)).2=false) (hk:wo (a.1+1,(Cf x a.2 a.1 0 ss (0,false)).1) sets 0=none) (hl:sets.length=64):
 Wp 2 (.pv (.bool false)) R0 (Zb (za ua 7) [0,3,4,30] ya 7 ⟨Kj i x,wh R0 R1 S nl sets rows n [.box (Aa row)]⟩):=by
 have e1:decide ((x:Int) < 256)=true:=Za (by omega)
 have hlen:(sets.map Wf).length=sets.length:=by simp
 have hq:Ca (i:Int) sets.length:=by unfold Ca;omega
 have hq2:Ca (x:Int) 256:=by unfold Ca;omega
 have t1:((i:Int)).toNat=i:=by simp
 have t3:((x:Int)).toNat=x:=by simp
 have t2:=Bb (i:=x) (n:=256) hx (by unfold maxLen;omega)
 have hbeh:=Rm (za ua 6) (wh R0 R1 S nl sets rows n [.box (Aa row)]) 3 _ S ss x a.2 a.1 rfl hS hw had ta hsz
 rw[hb2] at hbeh
 have hle:x+1≤(Aa row).length:=by rw[Ra];omega
 have hz:(((0:Nat)+x+1)≤(Aa row).length)=True:=by simp only[eq_iff_iff,iff_true];omega
 simp only[wh,List.cons_append,List.nil_append] at hbeh
 have e4:=Ik hb
 have t5:IntKind.i64.wrap ((a.1:Int)+1)=((a.1+1:Nat):Int):=Da (by omega)
 have hmet:=sO (za ua 6) R0 R1 S nl sets rows n (.box (Aa row)::sB ss) (a.1+1,(Cf x a.2 a.1 0 ss (0,false)).1) hk hl
 simp only[wh,Wf] at hmet
 generalize (Cf x a.2 a.1 0 ss (0,false)).1=left at *
 simp -implicitDefEqProofs only[SP,SA,SQ,sevalprocAttr,Zb,fa,ya,ua,e1,hlen,eq_true hq,eq_true hq2,t1,t2,t3,ha,hbeh,hmet,t5,e4,IA,hz,eq_true hle,xh,ma,Kj,wh]
end
end Go.AM.B1
namespace Go.AM.B1
open Go.AM
def tn (ss:List ec) (a:Al):List Nat→List Al×List Int→Option (List Al×List Int)
 | [],r=>some r
 |x::xs,r=>match Tg ss a x r.1 with
  |some p=>tn ss a xs (p.1,r.2.set x p.2)
  |none=>none
theorem pt {ss:List ec} {a:Al} {x:Nat} {xs:List Nat} {r:List Al×List Int} (h:Tg ss a x r.1=none):tn ss a (x::xs) r=none:=by
 rw[tn,h]
theorem Nt {ss:List ec} {a:Al} {x:Nat} {xs:List Nat} {r:List Al×List Int} {p:List Al×Int} (h:Tg ss a x r.1=some p):tn ss a (x::xs) r=tn ss a xs (p.1,r.2.set x p.2):=by
 rw[tn,h]
theorem Xq {n x:Nat} (h:x < n):(List.range n).drop x=x::(List.range n).drop (x+1):=by
 rw[List.drop_eq_getElem_cons (by simpa using h)];simp
theorem Gx {ss:List ec} {a:Al} {x:Int} {sets:List Al} {r:List Al×Int} (h:Tg ss a x sets=some r) (hl:sets.length≤64):r.1.length≤64∧∃ t,r.1=sets++t:=by
 unfold Tg at h
 split at h
 ·injection h with h;subst h;exact⟨hl,[],by simp⟩
 ·split at h
  ·injection h with h;subst h;exact⟨hl,[],by simp⟩
  ·split at h
   ·injection h with h;subst h;exact⟨hl,[],by simp⟩
   ·split at h
    ·injection h with h;subst h;exact⟨by simp;omega,_,rfl⟩
    ·cases h
section
variable (R0 R1:aa) (S:PV) (rows:aa) (n:Nat) (ss:List ec)
 (h0:pa 7 R0=some R0) (h1:pa 7 R1=some R1) (hr:pa 7 rows=some rows)
 (hS:Ah 2 S (ss.map Ed)) (hw:ss.length≤maxLen)
 (hsz:∀ s∈ss,∀ l∈s.parts,l.length * 16≤140737488355328)
include h0 h1 hr hS hw hsz
theorem gI {nl:Bool} {sets:List Al} {row:List Int} {i x:Nat} {a:Al} (hrow:row.length=256) (hx:x < 256) (ha:sets[i]? =some a) (had:a.1 < 4611686018427387904) (hl:sets.length≤64)
 (ta:∀ i s,ss[i]? =some s→Dv a.2 i=true→a.1 < s.parts.length):
 (∀ r,Tg ss a x sets=some r→∃ nl',Zb (za ua 7) [0,3,4,30] ya 7 ⟨Kj i x,wh R0 R1 S nl sets rows n [.box (Aa row)]⟩=
  some (.norm,⟨Kj i (x+1:Nat),wh R0 R1 S nl' r.1 rows n [.box (Aa (row.set x r.2))]⟩))∧
 (Tg ss a x sets=none→Wp 2 (.pv (.bool false)) R0 (Zb (za ua 7) [0,3,4,30] ya 7 ⟨Kj i x,wh R0 R1 S nl sets rows n [.box (Aa row)]⟩)):=by
 have hi:i < sets.length:=(List.getElem?_eq_some_iff.1 ha).1
 have ha':(sets.map Wf)[i]? =some (.agg [i64 a.1,u32 a.2]):=by rw[List.getElem?_map,ha];rfl
 by_cases hb:(Cf x a.2 a.1 0 ss (0,false)).1=0
 ·have hst:=(show Tg ss a x sets=some (sets,-2) by unfold Tg;rw[if_pos hb])
  rw[hst]
  exact⟨fun r e=>by injection e with e;subst e;exact⟨nl,oM R0 R1 S nl sets rows n row ss i x a h0 h1 hr hrow hx hi ha' had hS hw ta hsz hb⟩,fun e=>by cases e⟩
 by_cases hb2:(Cf x a.2 a.1 0 ss (0,false)).2=true
 ·have hst:=(show Tg ss a x sets=some (sets,-1) by unfold Tg;rw[if_neg hb,if_pos hb2])
  rw[hst]
  exact⟨fun r e=>by injection e with e;subst e;exact⟨nl,cN R0 R1 S nl sets rows n row ss i x a h0 h1 hr hrow hx hi ha' had hS hw ta hsz hb hb2⟩,fun e=>by cases e⟩
 have hb3:(Cf x a.2 a.1 0 ss (0,false)).2=false:=by simpa using hb2
 cases hk:wo (a.1+1,(Cf x a.2 a.1 0 ss (0,false)).1) sets 0 with
 |some k=>
  have hst:=(show Tg ss a x sets=some (sets,(k:Int)) by unfold Tg;rw[if_neg hb,if_neg hb2,hk])
  rw[hst]
  exact⟨fun r e=>by injection e with e;subst e;exact⟨nl,XM R0 R1 S nl sets rows n row ss i x a h0 h1 hr hrow hx hi ha' had hS hw ta hsz hb hb3 hk⟩,fun e=>by cases e⟩
 |none=>
  by_cases hlt:sets.length < 64
  ·have hst:=(show Tg ss a x sets=some (sets++[(a.1+1,(Cf x a.2 a.1 0 ss (0,false)).1)],(sets.length:Int)) by unfold Tg;rw[if_neg hb,if_neg hb2,hk];simp only[if_pos hlt])
   rw[hst]
   exact⟨fun r e=>by injection e with e;subst e;exact⟨false,WN R0 R1 S nl sets rows n row ss i x a h0 h1 hr hrow hx hi ha' had hS hw ta hsz hb hb3 hk hlt⟩,fun e=>by cases e⟩
  ·have hst:=(show Tg ss a x sets=none by unfold Tg;rw[if_neg hb,if_neg hb2,hk];simp only[if_neg hlt])
   rw[hst]
   exact⟨fun r e=>(by cases e),fun _=>LK R0 R1 S nl sets rows n row ss i x a hrow hx hi ha' had hS hw ta hsz hb hb3 hk (by omega)⟩
theorem WM {nl:Bool} {sets:List Al} {row:List Int} {i:Nat} {a:Al} (hrow:row.length=256) (ha:sets[i]? =some a) (had:a.1 < 4611686018427387904) (hl:sets.length≤64)
 (ta:∀ i s,ss[i]? =some s→Dv a.2 i=true→a.1 < s.parts.length):
 (∀ r,tn ss a (List.range 256) (sets,row)=some r→∃ nl',Eb (fa (ga (za ua 7) ya) (xa 7 [0,3,4,30])) wa ⟨Kj i 0,wh R0 R1 S nl sets rows n [.box (Aa row)]⟩=
  some (.exit 2,⟨(Kj i 256).set 31 (.pv (.bool false)),wh R0 R1 S nl' r.1 rows n [.box (Aa r.2)]⟩)∧r.1.length≤64∧r.2.length=256∧∃ t,r.1=sets++t)∧
 (tn ss a (List.range 256) (sets,row)=none→Wp 2 (.pv (.bool false)) R0 (Eb (fa (ga (za ua 7) ya) (xa 7 [0,3,4,30])) wa ⟨Kj i 0,wh R0 R1 S nl sets rows n [.box (Aa row)]⟩)):=by
 generalize hxs:List.range 256=xs
 have key:=Gi (g:=Zb (za ua 7) [0,3,4,30] ya 7)
  (fun x t=>∃ nl' sets' row',t=⟨Kj i x,wh R0 R1 S nl' sets' rows n [.box (Aa row')]⟩∧tn ss a xs (sets,row)=tn ss a (xs.drop x) (sets',row')∧sets'.length≤64∧row'.length=256∧∃ t,sets'=sets++t)
  (fun ex t=>(∃ r,ex= .exit 2∧tn ss a xs (sets,row)=some r∧∃ nl',t=⟨(Kj i 256).set 31 (.pv (.bool false)),wh R0 R1 S nl' r.1 rows n [.box (Aa r.2)]⟩∧r.1.length≤64∧r.2.length=256∧∃ t,r.1=sets++t)∨
   (ex= .ret∧tn ss a xs (sets,row)=none∧t.env.get 2= .pv (.bool false)∧t.H[0]? =some R0))
  wa 256 0 ⟨Kj i (0:Nat),wh R0 R1 S nl sets rows n [.box (Aa row)]⟩ (by unfold wa;omega) (by omega) ⟨nl,sets,row,rfl,rfl,hl,hrow,[],by simp⟩ ?_ ?_
 ·obtain⟨ex,t,h,_,hq⟩:=key
  have h':Eb (fa (ga (za ua 7) ya) (xa 7 [0,3,4,30])) wa ⟨Kj i 0,wh R0 R1 S nl sets rows n [.box (Aa row)]⟩=some (ex,t):=h
  rw[h']
  rcases hq with⟨r,rfl,hr',nl',rfl,q1,q2,q3⟩ | ⟨rfl,hr',hg,hg2⟩
  ·refine⟨fun r2 e=> ?_,fun e=> ?_⟩
   ·rw[hr'] at e;injection e with e;subst e;exact⟨nl',rfl,q1,q2,q3⟩
   ·rw[hr'] at e;cases e
  ·refine⟨fun r2 e=> ?_,fun _=> .mk _ hg hg2⟩
   rw[hr'] at e;cases e
 ·rintro x hx t ⟨nl',sets',row',rfl,hrs,hl',hrow',tl,hts⟩
  have ha':sets'[i]? =some a:=by
   rw[hts,List.getElem?_append_left (List.getElem?_eq_some_iff.1 ha).1];exact ha
  have hd:=Xq hx
  rw[hxs] at hd
  have hsr:=gI R0 R1 S rows n ss h0 h1 hr hS hw hsz (nl:=nl') hrow' hx ha' had hl' ta
  rw[hd] at hrs
  cases hst:Tg ss a x sets' with
  |none=>
   rw[pt hst] at hrs
   obtain⟨t,g1,g2,g3⟩:=Sn (hsr.2 hst)
   exact .inr ⟨.ret,t,g1,rfl,.inr ⟨rfl,hrs,g2,g3⟩⟩
  |some r=>
   rw[Nt hst] at hrs
   obtain⟨nl2,g1⟩:=hsr.1 r hst
   obtain⟨k1,t2,k2⟩:=Gx hst hl'
   exact .inl ⟨_,g1,nl2,r.1,row'.set x r.2,rfl,hrs,k1,by simpa using hrow',tl++t2,by rw[k2,hts,List.append_assoc]⟩
 ·rintro t ⟨nl',sets',row',rfl,hrs,hl',hrow',tl,hts⟩
  rw[List.drop_eq_nil_of_le (by rw[← hxs,List.length_range];exact Nat.le_refl _)] at hrs
  refine⟨.exit 2,_,?_,rfl,.inl ⟨(sets',row'),rfl,hrs,nl',rfl,hl',hrow',tl,hts⟩⟩
  have e1:decide (((256:Nat):Int) < 256)=false:=by decide
  simp -implicitDefEqProofs only[SP,SA,SQ,sevalprocAttr,Zb,fa,ya,e1,Kj,wh]
end
end Go.AM.B1
namespace Go.AM.B1
open Go.AM
def gf (rs:List (List Int)):aa:= .seq 256 true (rs.flatMap Aa) 0 rs.isEmpty
theorem Sr (l:List Int):Aa l=(l.map i64).map .pv:=by simp[Aa]
theorem Uo (l:List Int):Bc (Aa l)=some (l.map i64):=by
 rw[Sr]
 induction l with
 |nil=>rfl
 |cons a l ih=>simp only[List.map_cons,Bc,ih,Option.map_some]
theorem Iz (l:List Int):(Aa l).all AV.one=true:=by
 induction l with
 |nil=>rfl
 |cons a l ih=>simp only[Aa,List.map_cons,List.all_cons,AV.one,Bool.true_and] at ih ⊢;exact ih
theorem NR:List.map AV.pv (List.replicate 256 (PV.int .i64 0))=Aa (List.replicate 256 0):=by
 simp only[Aa,List.map_replicate]
theorem Ku {α:Type}:∀ (vs cs pre:List α),cs.length=vs.length→oa (pre++cs) pre.length vs=pre++vs
 | [],cs,pre,h=>by simp at h;subst h;rfl
 |v::vs,c::cs,pre,h=>by
  rw[oa]
  have h1:(pre++c::cs).set pre.length v=(pre++[v])++cs:=by
   rw[List.set_append_right _ _ (Nat.le_refl _)];simp
  rw[h1]
  have:=Ku vs cs (pre++[v]) (by simpa using h)
  simp only[List.length_append,List.length_cons,List.length_nil,Nat.zero_add] at this
  rw[this];simp
 |_::_,[],_,h=>by simp at h
theorem Ys (n d:Nat) (rs:List (List Int)):(rs.flatMap Aa).all (AV.Wc n d)=true:=by
 rw[List.all_eq_true]
 intro v hv
 rw[List.mem_flatMap] at hv
 obtain⟨r,_,hv⟩:=hv
 simp only[Aa,List.mem_map] at hv
 obtain⟨x,_,rfl⟩:=hv
 cases d <;> rfl
theorem YA:∀ {rs:List (List Int)},(∀ r∈rs,r.length=256)→(rs.flatMap Aa).length=rs.length * 256
 | [],_=>rfl
 |r::rs,h=>by
  have:=YA (rs:=rs) (fun x hx=>h x (by simp[hx]))
  simp only[List.flatMap_cons,List.length_append,Ra,h r (by simp),this,List.length_cons]
  omega
abbrev zx (i:Int):Tr:=(Tr.lf.set 3 (.pv (i64 i))).set 0 (.ptr 3 0)
section
variable (R0 R1:aa) (S:PV) (nl:Bool) (sets:List Al) (rs:List (List Int)) (ss:List ec) (i:Nat)
 (h0:pa 7 R0=some R0) (h1:pa 7 R1=some R1) (g0:pa 6 R0=some R0) (g1:pa 6 R1=some R1)
 (hi:i < sets.length) (hl:sets.length≤64) (hrl:rs.length≤64) (hrr:∀ r∈rs,r.length=256)
include h0 h1 g0 g1 hi hl hrl hrr
theorem mL (nl':Bool) (sets':List Al) (row:List Int) (hrow:row.length=256)
 (hrowL:Eb (fa (ga (za ua 7) ya) (xa 7 [0,3,4,30])) wa ⟨Kj i 0,wh R0 R1 S nl sets (gf rs) rs.length [.box (Aa (List.replicate 256 0))]⟩=
  some (.exit 2,⟨(Kj i 256).set 31 (.pv (.bool false)),wh R0 R1 S nl' sets' (gf rs) rs.length [.box (Aa row)]⟩)):
 Zb (za ua 7) [0,3] Ta 6 ⟨zx i,wh R0 R1 S nl sets (gf rs) rs.length []⟩=
  some (.norm,⟨zx (i+1:Nat),wh R0 R1 S nl' sets' (gf (rs++[row])) (rs.length+1) []⟩):=by
 have hlen:(sets.map Wf).length=sets.length:=by simp
 have e1:decide ((i:Int) < (sets.length:Int))=true:=Za (by omega)
 have t2:=Bb (i:=i) (n:=64) (by omega) (by unfold maxLen;omega)
 have p0:((Aa row).length=256)=True:=by rw[Ra,hrow];exact eq_self _
 have p1:(256≤(Aa row).length)=True:=by rw[Ra,hrow];exact eq_true (Nat.le_refl _)
 have p2:List.take 256 (Aa row)=Aa row:=List.take_of_length_le (by rw[Ra,hrow];exact Nat.le_refl _)
 have p3:=Uo row
 have p4:((row.map i64).length=256)=True:=by rw[List.length_map,hrow];exact eq_self _
 have p5:(256≤(Aa (List.replicate 256 0)).length)=True:=by rw[Ra,List.length_replicate];exact eq_true (Nat.le_refl _)
 have p6:oa (Aa (List.replicate 256 0)) 0 (Aa row)=Aa row:=by
  have:=Ku (Aa row) (Aa (List.replicate 256 0)) [] (by rw[Ra,Ra,hrow,List.length_replicate])
  rw[List.nil_append,List.nil_append] at this;exact this
 have p7:=Iz row
 have p8:List.take 256 (row.map i64)=row.map i64:=List.take_of_length_le (by rw[List.length_map,hrow];exact Nat.le_refl _)
 have p9:(row.map i64).map AV.pv=Aa row:=(Sr row).symm
 have q1:(rs.length * 256=(rs.flatMap Aa).length)=True:=by rw[YA hrr];exact eq_self _
 have q2:Cb (rs.length+1) 2048:=by unfold Cb;omega
 have q3:(rs++[row]).flatMap Aa=rs.flatMap Aa++Aa row:=by rw[List.flatMap_append,List.flatMap_cons,List.flatMap_nil,List.append_nil]
 have q4:(rs++[row]).isEmpty=false:=by cases rs <;> rfl
 have q5:=Ys 7 6 rs
 have q6:=Ys 6 6 (rs++[row])
 rw[q3] at q6
 simp only[Kj,wh,gf,Int.cast_ofNat_Int] at hrowL
 unfold wh gf
 rw[q3,q4]
 have hz2:=NR
 generalize hz:List.replicate 256 (0:Int)=zs at *
 simp -implicitDefEqProofs only[SP,SA,SQ,sevalprocAttr,-List.reduceReplicate,Zb,fa,Ta,hlen,e1,Tc,xa,Qa,pk,ak,Rj,Pp,Ha,Xm,AV.cut,Rb,h0,h1,g0,g1,zx,hz2,q5]
 rw[hrowL]
 simp -implicitDefEqProofs only[SP,SA,SQ,sevalprocAttr,-List.reduceReplicate,List.append_nil,hlen,t2,p0,p1,p2,p3,p4,p5,p6,p7,p8,p9,q1,eq_true q2,q5,q6,fj,AV.cI,AV.Hs,hz2,Zi,xa,Qa,pk,ak,Rj,Pp,Ha,Xm,AV.cut,Rb,h0,h1,g0,g1]
end
end Go.AM.B1
