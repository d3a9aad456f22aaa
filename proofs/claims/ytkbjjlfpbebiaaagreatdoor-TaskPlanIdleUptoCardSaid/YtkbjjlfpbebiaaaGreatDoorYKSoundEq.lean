/-
  SoundEq (a part of a claim: our own text).
-/
import Derived.Test.YtkbjjlfpbebiaaaGreatDoorYKSoundV
namespace Go.Abs
variable {F:Cells} {w:World} {ρ:Env} {P:Program}
def IsCells (P:Program)(F:Cells)(w:World)(t:TypeId)(x:Value)(ps:List PVal):Prop:=
 (dzk P t=some true/\∃vs:Array Value,x=.agg vs/\ps.length=vs.size/\∀ (j:Nat) (p:PVal) (v:Value),ps[j]?=some p->vs[j]?=some v->PRel F w p v)\/
 (dzk P t=some false/\∃p,ps=[p]/\PRel F w p x)
theorem mzm:∀ {a a' b b':List PVal} {r:Bool},a.length=a'.length->dz8 (a++b) (a'++b')=some r->
 ∃r1 r2,dz8 a a'=some r1/\dz8 b b'=some r2/\r=(r1&&r2)
 |[],[],b,b',r,_,h=>⟨true,r,rfl,by simpa using h,by simp⟩
 |[],_::_,_,_,_,hl,_=>by simp at hl
 |_::_,[],_,_,_,hl,_=>by simp at hl
 |x::a,y::a',b,b',r,hl,h=>by
  have hl':a.length=a'.length:=by simpa using hl
  simp only[List.cons_append]at h
  cases x<;>cases y<;>simp only[dz8]at h<;>try(cases h;done)
  all_goals
   first
   |(split at h
     ·simp only[Option.map_eq_some_iff]at h
      obtain⟨q,hq,rfl⟩:=h
      obtain⟨r1,r2,h1,h2,rfl⟩:=mzm hl' hq
      rename_i hk
      exact⟨_,r2,by simp[dz8,h1,hk];rfl,h2,by simp[Bool.and_assoc]⟩
     ·cases h)
   |(simp only[Option.map_eq_some_iff]at h
     obtain⟨q,hq,rfl⟩:=h
     obtain⟨r1,r2,h1,h2,rfl⟩:=mzm hl' hq
     exact⟨_,r2,by simp[dz8,h1];rfl,h2,by simp[Bool.and_assoc]⟩)
theorem IsCells.part {t:TypeId}{s:Nat}{vs:Array Value}{ps:List PVal}(off:Nat)(hs:bzi P t=some s)(hl:ps.length=vs.size)
 (h:∀ (j:Nat) (p:PVal) (v:Value),ps[j]?=some p->vs[j]?=some v->PRel F w p v) (hle:off+s≤vs.size) (ha:(dzk P t=some true)\/(dzk P t=some false/\s=1)):
 ∃x,(Go.part t vs off).run P w=.ok x w/\IsCells P F w t x ((ps.drop off).take s):=by
 rcases ha with ha|⟨ha,rfl⟩
 ·refine⟨_,kzj (.inl ⟨ha,s,hs,rfl⟩),.inl ⟨ha,_,rfl,by simp;omega,fun j p v hj hv=>?_⟩⟩
  simp only[List.getElem?_take,List.getElem?_drop]at hj
  split at hj
  ·rw[Array.getElem?_extract]at hv
   split at hv
   ·exact h (off+j) p v hj hv
   ·cases hv
  ·cases hj
 ·have h1:off<vs.size:=by omega
  have h2:off<ps.length:=by omega
  refine⟨vs[off],kzj (.inr ⟨ha,by simp[h1]⟩),.inr ⟨ha,ps[off],?_,h off _ _ (by simp[h2]) (by simp[h1])⟩⟩
  rw[List.drop_eq_getElem_cons h2];rfl
theorem nzy:∀ {a b:List Nat} {ps:List PVal},fits (a++b) ps=true->fits a (ps.take a.length)=true/\fits b (ps.drop a.length)=true/\a.length≤ps.length
 |[],b,ps,h=>by simpa[fits]using h
 |k::a,b,[],h=>by simp[fits]at h
 |k::a,b,p::ps,h=>by
  simp only[List.cons_append,fits,Bool.and_eq_true]at h
  obtain⟨h1,h2,h3⟩:=nzy h.2
  simp[fits,h.1,h1,h2,h3]
theorem lz7:∀ {a:List Nat} {ps:List PVal},fits a ps=true->ps.length=a.length
 |[],[],_=>rfl
 |[],_::_,h=>by simp[fits]at h
 |_::_,[],h=>by simp[fits]at h
 |_::a,_::ps,h=>by
  simp only[fits,Bool.and_eq_true]at h
  simp[lz7 h.2]
def Aza (P:Program)(t:TypeId)(ks:List Nat):Prop:=(dzk P t=some true)\/(dzk P t=some false/\ks.length=1)
theorem Az4 {d:Nat}{t:TypeId}{ks:List Nat}(h:lzs P d t=some ks):Aza P t ks:=by
 cases d with
 |zero=>simp[lzs]at h
 |succ d=>
  simp only[lzs]at h
  split at h<;>rename_i hu<;>first
   |(simp at h;subst h;right;simp[dzk,hu];done)
   |(left;simp[dzk,hu];done)
   |(cases h;done)
def Pzx (P:Program)(F:Cells)(w:World)(D:Nat)(t:TypeId)(ks:List Nat):Prop:=
 ∀ (x y:Value) (ps qs:List PVal) (r:Bool),IsCells P F w t x ps->IsCells P F w t y qs->fits ks ps=true->fits ks qs=true->dz8 ps qs=some r->
   (Op.equalIn D t x y).run P w=.ok r w
theorem Oz2 {D:Nat}{e:TypeId}{ks ks':List Nat}(ih:Pzx P F w D e ks)(ha:Aza P e ks)(hs:bzi P e=some ks.length)(hne:0<ks.length){xs ys:Array Value}{ps qs:List PVal}
 (hl:ps.length=xs.size) (hl':qs.length=ys.size) (hx:∀ (j:Nat) (p:PVal) (v:Value),ps[j]?=some p->xs[j]?=some v->PRel F w p v)
 (hy:∀ (j:Nat) (p:PVal) (v:Value),qs[j]?=some p->ys[j]?=some v->PRel F w p v) {off:Nat} {r:Bool}
 (h1:fits (ks++ks') (ps.drop off)=true) (h2:fits (ks++ks') (qs.drop off)=true) (h:dz8 (ps.drop off) (qs.drop off)=some r):
 ∃x y r1 r2,(part e xs off).run P w=.ok x w/\(part e ys off).run P w=.ok y w/\(Op.equalIn D e x y).run P w=.ok r1 w/\r=(r1&&r2)/\
  fits ks' (ps.drop (off+ks.length))=true/\fits ks' (qs.drop (off+ks.length))=true/\dz8 (ps.drop (off+ks.length)) (qs.drop (off+ks.length))=some r2:=by
 obtain⟨f1,f2,f3⟩:=nzy h1
 obtain⟨g1,g2,g3⟩:=nzy h2
 rw[List.drop_drop]at f2 g2
 simp only[List.length_drop]at f3 g3
 rw[←List.take_append_drop ks.length (ps.drop off),←List.take_append_drop ks.length (qs.drop off),List.drop_drop,List.drop_drop]at h
 obtain⟨r1,r2,c1,c2,rfl⟩:=mzm (by simp;omega) h
 obtain⟨x,px,cx⟩:=IsCells.part (P:=P) (F:=F) (w:=w) off hs hl hx (by omega) ha
 obtain⟨y,py,cy⟩:=IsCells.part (P:=P) (F:=F) (w:=w) off hs hl' hy (by omega) ha
 exact⟨x,y,r1,r2,px,py,ih x y _ _ r1 cx cy f1 g1 c1,rfl,f2,g2,c2⟩
theorem Mz9 {D:Nat}{e:TypeId}{ks:List Nat}(ih:Pzx P F w D e ks)(ha:Aza P e ks)(hs:bzi P e=some ks.length)(hne:0<ks.length){xs ys:Array Value}{ps qs:List PVal}
 (hl:ps.length=xs.size) (hl':qs.length=ys.size) (hx:∀ (j:Nat) (p:PVal) (v:Value),ps[j]?=some p->xs[j]?=some v->PRel F w p v)
 (hy:∀ (j:Nat) (p:PVal) (v:Value),qs[j]?=some p->ys[j]?=some v->PRel F w p v):
 ∀ (k i:Nat) (r:Bool),fits (List.replicate k ks).flatten (ps.drop (i * ks.length))=true->fits (List.replicate k ks).flatten (qs.drop (i * ks.length))=true->
   dz8 (ps.drop (i * ks.length)) (qs.drop (i * ks.length))=some r->(Op.eqItems D e (P.cellsOf e) xs ys (List.range' i k)).run P w=.ok r w
 |0,i,r,h1,h2,h=>by
  simp only[List.replicate_zero,List.flatten_nil]at h1 h2
  have e1:=lz7 h1
  have e2:=lz7 h2
  rw[List.eq_nil_of_length_eq_zero e1,List.eq_nil_of_length_eq_zero e2]at h
  simp[dz8]at h;subst h
  simp[Op.eqItems]
 |k+1,i,r,h1,h2,h=>by
  have hc:P.cellsOf e=ks.length:=by
   obtain⟨inf,hi,hsz⟩:=ez2 hs
   simp[Program.cellsOf,hi,hsz]
  rw[List.replicate_succ,List.flatten_cons]at h1 h2
  obtain⟨x,y,r1,r2,px,py,hr,rfl,g1,g2,c2⟩:=Oz2 ih ha hs hne hl hl' hx hy h1 h2 h
  rw[show i * ks.length+ks.length=(i+1) * ks.length by rw[Nat.add_mul];omega]at g1 g2 c2
  have rest:=Mz9 ih ha hs hne hl hl' hx hy k (i+1) r2 g1 g2 c2
  rw[List.range'_succ]
  rw[hc]at rest
  simp only[Op.eqItems,hc,Sem.run_bind,px,py,hr,Result.andThen_ok]
  cases r1
  ·simp
  ·simpa using rest
theorem Izt {D:Nat}{g:TypeId->Option (List Nat)}{xs ys:Array Value}{ps qs:List PVal}(ih:∀t ks,g t=some ks->Pzx P F w D t ks/\Aza P t ks)
 (hl:ps.length=xs.size) (hl':qs.length=ys.size) (hx:∀ (j:Nat) (p:PVal) (v:Value),ps[j]?=some p->xs[j]?=some v->PRel F w p v)
 (hy:∀ (j:Nat) (p:PVal) (v:Value),qs[j]?=some p->ys[j]?=some v->PRel F w p v):
 ∀ (fs:List Field) (off:Nat) (ks:List Nat) (r:Bool),tzx P g fs off=some ks->fits ks (ps.drop off)=true->fits ks (qs.drop off)=true->
   dz8 (ps.drop off) (qs.drop off)=some r->(Op.eqFields D xs ys fs).run P w=.ok r w
 |[],off,ks,r,h,h1,h2,hc=>by
  simp[tzx]at h;subst h
  rw[List.eq_nil_of_length_eq_zero (lz7 h1),List.eq_nil_of_length_eq_zero (lz7 h2)]at hc
  simp[dz8]at hc;subst hc
  simp[Op.eqFields]
 |f::fs,off,ks,r,h,h1,h2,hc=>by
  simp only[tzx]at h
  split at h
  ·rename_i hf
   simp only[Bool.and_eq_true,decide_eq_true_eq,bne_iff_ne,ne_eq]at hf
   obtain⟨rfl,hname⟩:=hf
   split at h
   ·rename_i k1 hgs
    split at h
    ·rename_i hs
     simp only[Bool.and_eq_true,decide_eq_true_eq,Bool.not_eq_true']at hs
     split at h
     ·rename_i k2 hrest
      simp at h;subst h
      obtain⟨i1,i2⟩:=ih _ _ hgs
      obtain⟨x,y,r1,r2,px,py,hr,rfl,g1,g2,c2⟩:=Oz2 i1 i2 hs.1 (by simpa[List.length_pos_iff]using hs.2) hl hl' hx hy h1 h2 hc
      have rest:=Izt ih hl hl' hx hy fs _ _ r2 hrest g1 g2 c2
      simp only[Op.eqFields,ne_eq,hname,not_false_eq_true,if_true,Sem.run_bind,px,py,hr,Result.andThen_ok]
      cases r1
      ·simp
      ·simpa using rest
     ·cases h
    ·cases h
   ·cases h
  ·cases h
theorem Az1:∀ (d:Nat) (t:TypeId) (ks:List Nat),lzs P d t=some ks->∀ (D:Nat),Pzx P F w (D+d) t ks
 |0,_,_,h,_=>by simp[lzs]at h
 |d+1,t,ks,h,D=>by
  intro x y ps qs r hx hy hpl hql hc
  have hsc:dzk P t=some false->∃p q,ps=[p]/\qs=[q]/\PRel F w p x/\PRel F w q y:=by
   intro ha
   rcases hx with⟨h1,_⟩|⟨_,p,rfl,hp⟩
   ·rw[ha]at h1;cases h1
   ·rcases hy with⟨h1,_⟩|⟨_,q,rfl,hq⟩
    ·rw[ha]at h1;cases h1
    ·exact⟨p,q,rfl,rfl,hp,hq⟩
  have hag:dzk P t=some true->(∃vs:Array Value,x=.agg vs/\ps.length=vs.size/\∀ (j:Nat) (p:PVal) (v:Value),ps[j]?=some p->vs[j]?=some v->PRel F w p v)/\
   (∃vs:Array Value,y=.agg vs/\qs.length=vs.size/\∀ (j:Nat) (p:PVal) (v:Value),qs[j]?=some p->vs[j]?=some v->PRel F w p v):=by
   intro ha
   rcases hx with⟨_,h1⟩|⟨h1,_⟩
   ·rcases hy with⟨_,h2⟩|⟨h2,_⟩
    ·exact⟨h1,h2⟩
    ·rw[ha]at h2;cases h2
   ·rw[ha]at h1;cases h1
  rw[show D+(d+1)=(D+d)+1 from rfl]
  simp only[lzs]at h
  split at h<;>rename_i hu
  ·obtain⟨p,q,rfl,rfl,hp,hq⟩:=hsc (by simp[dzk,hu])
   simp at h;subst h
   cases hp<;>simp[fits,xzt]at hpl
   cases hq<;>simp[fits,xzt]at hql
   simp[dz8]at hc;subst hc;simp[Op.equalIn,run_underlying hu]
  ·obtain⟨p,q,rfl,rfl,hp,hq⟩:=hsc (by simp[dzk,hu])
   simp at h;subst h
   cases hp<;>simp[fits,xzt]at hpl
   cases hq<;>simp[fits,xzt]at hql
   simp[dz8]at hc
   obtain⟨rfl,rfl⟩:=hc
   simp[Op.equalIn,run_underlying hu]
  ·obtain⟨p,q,rfl,rfl,hp,hq⟩:=hsc (by simp[dzk,hu])
   simp at h;subst h
   cases hp<;>simp[fits,xzt]at hpl
   cases hq<;>simp[fits,xzt]at hql
   simp[dz8]at hc;subst hc;simp[Op.equalIn,run_underlying hu]
  ·rename_i n e
   split at h
   ·rename_i k1 he
    split at h
    ·rename_i hs
     simp only[Bool.and_eq_true,decide_eq_true_eq,Bool.not_eq_true']at hs
     simp at h;subst h
     obtain⟨⟨xs,rfl,hl,hx'⟩,⟨ys,rfl,hl',hy'⟩⟩:=hag (by simp[dzk,hu])
     obtain⟨inf,hi,hsz⟩:=ez2 hs.1
     rw[run_equalIn_array w (D+d) xs ys hu hi,List.range_eq_range']
     exact Mz9 (Az1 d e k1 he D) (Az4 he) hs.1 (by simpa[List.length_pos_iff]using hs.2) hl hl' hx' hy' n 0 r (by simpa using hpl) (by simpa using hql) (by simpa using hc)
    ·cases h
   ·cases h
  ·rename_i fs
   split at h
   ·cases h
   ·rename_i hst
    obtain⟨⟨xs,rfl,hl,hx'⟩,⟨ys,rfl,hl',hy'⟩⟩:=hag (by simp[dzk,hu])
    have hf:P.underlying t=some (.struct (P.fieldsOf t)):=by simp[Program.fieldsOf,hu]
    have hff:P.fieldsOf t=fs:=by simp[Program.fieldsOf,hu]
    rw[run_equalIn_struct w (D+d) t xs ys hf (by simpa using hst),hff]
    exact Izt (fun t ks h=>⟨Az1 d t ks h D,Az4 h⟩) hl hl' hx' hy' fs.toList 0 ks r h (by simpa using hpl) (by simpa using hql) (by simpa using hc)
  ·cases h
theorem wzf:∀ (d:Nat) (t:TypeId) (ks:List Nat),lzs P d t=some ks->∀D,d≤D->P.eqGuardType D t=false
 |0,_,_,h,_,_=>by simp[lzs]at h
 |d+1,t,ks,h,0,hD=>by omega
 |d+1,t,ks,h,D+1,hD=>by
  simp only[lzs]at h
  simp only[Program.eqGuardType]
  split at h<;>rename_i hu<;>(try simp only[hu])
  ·rename_i n e
   split at h
   ·rename_i k1 he
    exact wzf d e k1 he D (by omega)
   ·cases h
  ·rename_i fs
   split at h
   ·cases h
   ·rw[←Array.any_toList]
    have:∀ (l:List Field) (off:Nat) (ks:List Nat),tzx P (lzs P d) l off=some ks->(l.any fun f=>f.name != "_" &&P.eqGuardType D f.type)=false:=by
     intro l
     induction l with
     |nil=>simp
     |cons f l ih=>
      intro off ks hf
      simp only[tzx]at hf
      split at hf
      ·split at hf
       ·rename_i k1 h1
        split at hf
        ·split at hf
         ·rename_i k2 h2
          simp[ih _ _ h2,wzf d _ _ h1 D (by omega)]
         ·cases hf
        ·cases hf
       ·cases hf
      ·cases hf
    exact this _ _ _ h
  ·cases h
end Go.Abs
