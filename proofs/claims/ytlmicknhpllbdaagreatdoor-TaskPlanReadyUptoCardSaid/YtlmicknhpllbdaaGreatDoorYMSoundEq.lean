/-
  SoundEq (a part of a claim: our own text).
-/
import Derived.Test.YtlmicknhpllbdaaGreatDoorYMSoundV
namespace Go.Abs
variable {F:Cells} {w:World} {ρ:Env} {P:Program}
def IsCells (P:Program)(F:Cells)(w:World)(t:TypeId)(x:Value)(ps:List PVal):Prop:=
 (eza P t=some true/\∃vs:Array Value,x=.agg vs/\ps.length=vs.size/\∀ (j:Nat) (p:PVal) (v:Value),ps[j]?=some p->vs[j]?=some v->PRel F w p v)\/
 (eza P t=some false/\∃p,ps=[p]/\PRel F w p x)
theorem uz3:∀ {a e b g:List PVal} {r:Bool},a.length=e.length->dzp (a++b) (e++g)=some r->
 ∃f c,dzp a e=some f/\dzp b g=some c/\r=(f&&c)
 |[],[],b,g,r,_,h=>⟨true,r,rfl,by simp_all,by simp⟩
 |[],_::_,_,_,_,l,_=>by grind
 |_::_,[],_,_,_,l,_=>by grind
 |x::a,y::e,b,g,r,l,h=>by
  have d:a.length=e.length:=by simpa using l
  simp only[List.cons_append]at h
  cases x<;>cases y<;>simp only[dzp]at h<;>try(cases h;done)
  all_goals
   first
   |(split at h
     ·simp only[Option.map_eq_some_iff]at h
      obtain⟨q,j,rfl⟩:=h
      obtain⟨f,c,i,k,rfl⟩:=uz3 d j
      rename_i m
      exact⟨_,c,by simp[dzp,i,m];rfl,k,by simp[Bool.and_assoc]⟩
     ·cases h)
   |(simp only[Option.map_eq_some_iff]at h
     obtain⟨q,j,rfl⟩:=h
     obtain⟨f,c,i,k,rfl⟩:=uz3 d j
     exact⟨_,c,by simp[dzp,i];rfl,k,by simp[Bool.and_assoc]⟩)
theorem IsCells.part {t:TypeId}{s:Nat}{vs:Array Value}{ps:List PVal}(off:Nat)(c:bz9 P t=some s)(e:ps.length=vs.size)
 (h:∀ (j:Nat) (p:PVal) (v:Value),ps[j]?=some p->vs[j]?=some v->PRel F w p v) (b:off+s≤vs.size) (a:(eza P t=some true)\/(eza P t=some false/\s=1)):
 ∃x,(Go.part t vs off).run P w=.ok x w/\IsCells P F w t x ((ps.drop off).take s):=by
 rcases a with a|⟨a,rfl⟩
 ·refine⟨_,qzd (.inl ⟨a,s,c,rfl⟩),.inl ⟨a,_,rfl,by grind,fun j p v d f=>?_⟩⟩
  grind
 ·refine⟨vs[off],qzd (.inr ⟨a,by simp⟩),.inr ⟨a,ps[off],?_,h off _ _ (by simp) (by simp)⟩⟩
  grind[List.drop_eq_getElem_cons]
theorem wzz:∀ {a b:List Nat} {ps:List PVal},fits (a++b) ps=true->fits a (ps.take a.length)=true/\fits b (ps.drop a.length)=true/\a.length≤ps.length
 |[],b,ps,h=>by simpa[fits]using h
 |k::a,b,[],h=>by simp[fits]at h
 |k::a,b,p::ps,h=>by
  simp only[List.cons_append,fits,Bool.and_eq_true]at h
  obtain⟨c,e,d⟩:=wzz h.2
  simp[fits,h.1,c,e,d]
theorem rzb:∀ {a:List Nat} {ps:List PVal},fits a ps=true->ps.length=a.length
 |[],[],_=>rfl
 |[],_::_,h=>by simp[fits]at h
 |_::_,[],h=>by simp[fits]at h
 |_::a,_::ps,h=>by
  simp only[fits,Bool.and_eq_true]at h
  simp[rzb h.2]
def Nzo (P:Program)(t:TypeId)(a:List Nat):Prop:=(eza P t=some true)\/(eza P t=some false/\a.length=1)
theorem Nzg {d:Nat}{t:TypeId}{b:List Nat}(h:szp P d t=some b):Nzo P t b:=by
 cases d with
 |zero=>simp[szp]at h
 |succ d=>
  simp only[szp]at h
  split at h<;>rename_i a<;>first
   |(simp at h;subst h;right;simp[eza,a];done)
   |(left;simp[eza,a];done)
   |simp_all
def az8a (P:Program)(F:Cells)(w:World)(D:Nat)(t:TypeId)(b:List Nat):Prop:=
 ∀ (x y:Value) (ps a:List PVal) (r:Bool),IsCells P F w t x ps->IsCells P F w t y a->fits b ps=true->fits b a=true->dzp ps a=some r->
   (Op.equalIn D t x y).run P w=.ok r w
theorem az5q {D:Nat}{e:TypeId}{a b:List Nat}(E:az8a P F w D e a)(n:Nzo P e a)(k:bz9 P e=some a.length)(I:0<a.length){xs i:Array Value}{ps c:List PVal}
 (s:ps.length=xs.size) (g:c.length=i.size) (z:∀ (j:Nat) (p:PVal) (v:Value),ps[j]?=some p->xs[j]?=some v->PRel F w p v)
 (u:∀ (j:Nat) (p:PVal) (v:Value),c[j]?=some p->i[j]?=some v->PRel F w p v) {off:Nat} {r:Bool}
 (K:fits (a++b) (ps.drop off)=true) (L:fits (a++b) (c.drop off)=true) (h:dzp (ps.drop off) (c.drop off)=some r):
 ∃x y d f,(part e xs off).run P w=.ok x w/\(part e i off).run P w=.ok y w/\(Op.equalIn D e x y).run P w=.ok d w/\r=(d&&f)/\
  fits b (ps.drop (off+a.length))=true/\fits b (c.drop (off+a.length))=true/\dzp (ps.drop (off+a.length)) (c.drop (off+a.length))=some f:=by
 obtain⟨t,m,G⟩:=wzz K
 obtain⟨M,l,H⟩:=wzz L
 rw[List.drop_drop]at m l
 simp only[List.length_drop]at G H
 rw[←List.take_append_drop a.length (ps.drop off),←List.take_append_drop a.length (c.drop off),List.drop_drop,List.drop_drop]at h
 obtain⟨d,f,B,o,rfl⟩:=uz3 (by simp_all) h
 obtain⟨x,C,J⟩:=IsCells.part (P:=P) (F:=F) (w:=w) off k s z (by omega) n
 obtain⟨y,A,q⟩:=IsCells.part (P:=P) (F:=F) (w:=w) off k g u (by omega) n
 exact⟨x,y,d,f,C,A,E x y _ _ d J q t M B,rfl,m,l,o⟩
theorem az2j {D:Nat}{e:TypeId}{a:List Nat}(t:az8a P F w D e a)(A:Nzo P e a)(m:bz9 P e=some a.length)(d:0<a.length){xs l:Array Value}{ps f:List PVal}
 (q:ps.length=xs.size) (c:f.length=l.size) (s:∀ (j:Nat) (p:PVal) (v:Value),ps[j]?=some p->xs[j]?=some v->PRel F w p v)
 (z:∀ (j:Nat) (p:PVal) (v:Value),f[j]?=some p->l[j]?=some v->PRel F w p v):
 ∀ (k i:Nat) (r:Bool),fits (List.replicate k a).flatten (ps.drop (i * a.length))=true->fits (List.replicate k a).flatten (f.drop (i * a.length))=true->
   dzp (ps.drop (i * a.length)) (f.drop (i * a.length))=some r->(Op.eqItems D e (P.cellsOf e) xs l (List.range' i k)).run P w=.ok r w
 |0,i,r,g,n,h=>by
  have N:=rzb g
  have M:=rzb n
  simp_all[List.eq_nil_of_length_eq_zero,dzp,Op.eqItems]
 |k+1,i,r,g,n,h=>by
  have u:P.cellsOf e=a.length:=by
   obtain⟨G,hi,o⟩:=izf m
   simp[Program.cellsOf,hi,o]
  obtain⟨x,y,J,I,K,H,L,rfl,C,B,E⟩:=az5q t A m d q c s z g n h
  rw[show i * a.length+a.length=(i+1) * a.length by rw[Nat.add_mul];omega]at C B E
  have b:=az2j t A m d q c s z k (i+1) I C B E
  rw[List.range'_succ]
  rw[u]at b
  simp only[Op.eqItems,u,Sem.run_bind,K,H,L,Result.andThen_ok]
  cases J
  ·simp
  ·simpa using b
theorem Xzl {D:Nat}{g:TypeId->Option (List Nat)}{xs n:Array Value}{ps e:List PVal}(C:∀t a,g t=some a->az8a P F w D t a/\Nzo P t a)
 (z:ps.length=xs.size) (d:e.length=n.size) (A:∀ (j:Nat) (p:PVal) (v:Value),ps[j]?=some p->xs[j]?=some v->PRel F w p v)
 (q:∀ (j:Nat) (p:PVal) (v:Value),e[j]?=some p->n[j]?=some v->PRel F w p v):
 ∀ (i:List Field) (off:Nat) (a:List Nat) (r:Bool),Gzj P g i off=some a->fits a (ps.drop off)=true->fits a (e.drop off)=true->
   dzp (ps.drop off) (e.drop off)=some r->(Op.eqFields D xs n i).run P w=.ok r w
 |[],off,a,r,h,k,l,m=>by
  simp[Gzj]at h;subst h
  rw[List.eq_nil_of_length_eq_zero (rzb k),List.eq_nil_of_length_eq_zero (rzb l)]at m
  simp_all[dzp,Op.eqFields]
 |f::i,off,a,r,h,k,l,m=>by
  simp only[Gzj]at h
  split at h
  ·rename_i s
   simp only[Bool.and_eq_true,decide_eq_true_eq,bne_iff_ne,ne_eq]at s
   obtain⟨rfl,b⟩:=s
   split at h
   ·rename_i Q o
    split at h
    ·rename_i u
     simp only[Bool.and_eq_true,decide_eq_true_eq,Bool.not_eq_true']at u
     split at h
     ·rename_i R c
      simp at h;subst h
      obtain⟨L,K⟩:=C _ _ o
      obtain⟨x,y,N,I,G,J,O,rfl,M,H,E⟩:=az5q L K u.1 (by grind) z d A q k l m
      have B:=Xzl C z d A q i _ _ I c M H E
      simp only[Op.eqFields,ne_eq,b,not_false_eq_true,if_true,Sem.run_bind,G,J,O,Result.andThen_ok]
      cases N
      all_goals simp_all
     grind
    grind
   grind
  grind
theorem Nzd:∀ (d:Nat) (t:TypeId) (o:List Nat),szp P d t=some o->∀ (D:Nat),az8a P F w (D+d) t o
 |0,_,_,h,_=>by simp[szp]at h
 |d+1,t,o,h,D=>by
  intro x y ps z r J G c b H
  have i:eza P t=some false->∃p q,ps=[p]/\z=[q]/\PRel F w p x/\PRel F w q y:=by
   intro Q
   rcases J with⟨B,_⟩|⟨_,p,rfl,m⟩
   ·simp_all
   ·rcases G with⟨B,_⟩|⟨_,q,rfl,l⟩
    all_goals simp_all
  have s:eza P t=some true->(∃vs:Array Value,x=.agg vs/\ps.length=vs.size/\∀ (j:Nat) (p:PVal) (v:Value),ps[j]?=some p->vs[j]?=some v->PRel F w p v)/\
   (∃vs:Array Value,y=.agg vs/\z.length=vs.size/\∀ (j:Nat) (p:PVal) (v:Value),z[j]?=some p->vs[j]?=some v->PRel F w p v):=by
   intro Q
   rcases J with⟨_,B⟩|⟨B,_⟩
   ·rcases G with⟨_,O⟩|⟨O,_⟩
    all_goals simp_all
   simp_all
  rw[show D+(d+1)=(D+d)+1 from rfl]
  simp only[szp]at h
  split at h<;>rename_i k
  ·obtain⟨p,q,rfl,rfl,m,l⟩:=i (by simp[eza,k])
   simp at h;subst h
   cases m<;>simp[fits,Lz6]at c
   cases l<;>simp[fits,Lz6]at b
   simp_all[dzp,Op.equalIn,run_underlying]
  ·obtain⟨p,q,rfl,rfl,m,l⟩:=i (by simp[eza,k])
   simp at h;subst h
   cases m<;>simp[fits,Lz6]at c
   cases l<;>simp[fits,Lz6]at b
   simp[dzp]at H
   obtain⟨rfl,rfl⟩:=H
   simp[Op.equalIn,run_underlying k]
  ·obtain⟨p,q,rfl,rfl,m,l⟩:=i (by simp[eza,k])
   simp at h;subst h
   cases m<;>simp[fits,Lz6]at c
   cases l<;>simp[fits,Lz6]at b
   simp_all[dzp,Op.equalIn,run_underlying]
  ·rename_i n e
   split at h
   ·rename_i N I
    split at h
    ·rename_i A
     simp only[Bool.and_eq_true,decide_eq_true_eq,Bool.not_eq_true']at A
     obtain⟨⟨xs,rfl,E,f⟩,⟨C,rfl,a,g⟩⟩:=s (by simp[eza,k])
     obtain⟨L,hi,M⟩:=izf A.1
     rw[run_equalIn_array w (D+d) xs C k hi,List.range_eq_range']
     exact az2j (Nzd d e N I D) (Nzg I) A.1 (by grind) E a f g n 0 r (by simp_all) (by simp_all) (by simp_all)
    grind
   grind
  ·rename_i K
   split at h
   ·cases h
   ·obtain⟨⟨xs,rfl,E,f⟩,⟨C,rfl,a,g⟩⟩:=s (by simp[eza,k])
    have R:P.underlying t=some (.struct (P.fieldsOf t)):=by grind[Program.fieldsOf]
    have u:P.fieldsOf t=K:=by simp_all
    rw[run_equalIn_struct w (D+d) t xs C R (by simp_all),u]
    exact Xzl (fun t o h=>⟨Nzd d t o h D,Nzg h⟩) E a f g K.toList 0 o r h (by simp_all) (by simp_all) (by simp_all)
  grind
theorem Jzg:∀ (d:Nat) (t:TypeId) (b:List Nat),szp P d t=some b->∀D,d≤D->P.eqGuardType D t=false
 |0,_,_,h,_,_=>by simp[szp]at h
 |d+1,t,b,h,0,p=>by omega
 |d+1,t,b,h,D+1,p=>by
  simp only[szp]at h
  simp only[Program.eqGuardType]
  split at h<;>rename_i o<;>(try simp only[o])
  ·rename_i n e
   split at h
   ·rename_i g k
    exact Jzg d e g k D (by omega)
   ·cases h
  ·split at h
   ·cases h
   ·rw[←Array.any_toList]
    have:∀ (l:List Field) (off:Nat) (b:List Nat),Gzj P (szp P d) l off=some b->(l.any fun f=>f.name != "_" &&P.eqGuardType D f.type)=false:=by
     intro l
     induction l with
     |nil=>simp
     |cons f l m=>
      intro off b a
      simp only[Gzj]at a
      split at a
      ·split at a
       ·rename_i g i
        split at a
        ·split at a
         ·rename_i q j
          simp[m _ _ j,Jzg d _ _ i D (by omega)]
         ·cases a
        ·cases a
       ·cases a
      ·cases a
    exact this _ _ _ h
  ·cases h
end Go.Abs
